/- A plan in a block of its own, above a mark. -/
/- A master's plan is another one; what an event turns. -/
/- The library's contracts at this dump's numbers (by the kit's lay-plain). -/
import Derived.Test.YtcpaaleogmiamaaGreatDoorMh26
import Derived.Test.YtcpaaleogmiamaaGreatDoorMh27
import Derived.Test.YtcpaaleogmiamaaGreatDoorMh24
import Derived.Test.YtcpaaleogmiamaaGreatDoorMh25
import Derived.Shelf.SlIter.Nil
import Derived.Shelf.SlIter.Sorted
import Derived.Shelf.SortM.Plain
import Derived.Shelf.SortM.SortNone
import Derived.Ground.GgzProg
import Derived.Ground.SlgmProg
import Derived.Test.YtcpaaleogmiamaaGreatDoorProg
namespace Go.Proofs.YtcpaaleogmiamaaGreatDoor
open Go.RowKit

def PlanAt (w : World) (N Y : Nat) (q : Pl) : Prop := N ≤ Y ∧ Y < w.heap.size ∧ ∃ (pa la : Option Addr) (pc lc : Nat),
  w.heap[Y]? = some (.cells #[.int .i64 q.nodes, .int .i64 q.copies, .slice pa q.parts.length pc, .slice la q.lives.length lc] 52 (0, 0)) ∧ PlanFrom w N (planV q pa pc la lc) q

theorem PlanFrom.shape {w : World} {N : Nat} {a b c d : Value} {q : Pl} (h : PlanFrom w N (.agg #[a, b, c, d]) q) : ∃ (pa la : Option Addr) (pc lc : Nat), a = .int .i64 q.nodes ∧ b = .int .i64 q.copies ∧ c = .slice pa q.parts.length pc ∧ d = .slice la q.lives.length lc := by
  obtain ⟨pv, lv, e, hp, hl⟩ := h.rd
  obtain ⟨pa, pc, rfl, -⟩ := hp.cells
  obtain ⟨la, lc, rfl, -⟩ := hl.cells
  simp only [Value.agg.injEq, Array.mk.injEq, List.cons.injEq, and_true] at e
  obtain ⟨rfl, rfl, rfl, rfl⟩ := e
  exact ⟨pa, la, pc, lc, rfl, rfl, rfl, rfl⟩

theorem PlanFrom.split {w : World} {N : Nat} {v : Value} {q : Pl} (h : PlanFrom w N v q) : ∃ (pa la : Option Addr) (pc lc l j : Nat) (n k : Int), v = .agg #[.int .i64 n, .int .i64 k, .slice pa l pc, .slice la j lc] := by
  obtain ⟨pv, lv, rfl, hp, hl⟩ := h.rd
  obtain ⟨pa, pc, rfl, -⟩ := hp.cells
  obtain ⟨la, lc, rfl, -⟩ := hl.cells
  exact ⟨pa, la, pc, lc, _, _, _, _, rfl⟩

theorem PlanAt.upd {w w' : World} {F : Nat → Prop} {N Y : Nat} {q : Pl} (h : PlanAt w N Y q) (hu : Upd F w w') (hF : ∀ k, F k → k < N) : PlanAt w' N Y q := by
  obtain ⟨h1, h2, pa, la, pc, lc, h3, h4⟩ := h
  exact ⟨h1, by have := hu.size; omega, pa, la, pc, lc, (hu.block Y h2 (fun hf => by have := hF Y hf; omega)).trans h3, h4.upd hu hF⟩

theorem PlanAt.below {w w' : World} {N Y : Nat} {q : Pl} (h : PlanAt w N Y q) (hb : Below w.heap.size w w') : PlanAt w' N Y q :=
  h.upd (F := fun _ => False) (Upd.of_below hb) (fun _ h => h.elim)

theorem PlanAt.mono {w : World} {N N' Y : Nat} {q : Pl} (h : PlanAt w N Y q) (hn : N' ≤ N) : PlanAt w N' Y q := by
  obtain ⟨h1, h2, pa, la, pc, lc, h3, h4⟩ := h
  exact ⟨by omega, h2, pa, la, pc, lc, h3, h4.mono hn⟩

/-- The block is made behind the call. -/
theorem PlanAt.new {w : World} {N : Nat} {a b c d : Value} {q : Pl} (h : PlanFrom w N (.agg #[a, b, c, d]) q) (hN : N ≤ w.heap.size) : PlanAt (w.alloc (.cells #[a, b, c, d] 52)) N w.heap.size q := by
  obtain ⟨pa, la, pc, lc, rfl, rfl, rfl, rfl⟩ := h.shape
  exact ⟨hN, by simp, pa, la, pc, lc, heap_alloc_new _ _, h.below (below_alloc _ _)⟩

/-- The block is made ahead of the call, and written behind it. -/
theorem PlanAt.put {w : World} {M N Y : Nat} {a b c d z0 z1 z2 z3 : Value} {q : Pl} (h : PlanFrom w M (.agg #[a, b, c, d]) q) (hz : w.heap[Y]? = some (.cells #[z0, z1, z2, z3] 52 (0, 0))) (hN : N ≤ Y) (hM : Y < M) :
    PlanAt ((((w.setCell ⟨Y, 0, none⟩ a).setCell ⟨Y, 1, none⟩ b).setCell ⟨Y, 2, none⟩ c).setCell ⟨Y, 3, none⟩ d) N Y q := by
  obtain ⟨pa, la, pc, lc, rfl, rfl, rfl, rfl⟩ := h.shape
  have hlt := (Array.getElem?_eq_some_iff.1 hz).1
  have hu := upd_set4 w Y (.int .i64 q.nodes) (.int .i64 q.copies) (.slice pa q.parts.length pc) (.slice la q.lives.length lc)
  refine ⟨hN, by have := hu.size; omega, pa, la, pc, lc, setCell_same (setCell_same (setCell_same (setCell_same hz))), (h.upd hu (fun k e => by omega)).mono (by omega)⟩

/-- What stands in its block. -/
theorem PlanAt.cells {w : World} {N Y : Nat} {q : Pl} (h : PlanAt w N Y q) : ∃ (pa la : Option Addr) (pc lc : Nat), w.cell? ⟨Y, 0, none⟩ = some (.int .i64 q.nodes) ∧ w.cell? ⟨Y, 1, none⟩ = some (.int .i64 q.copies) ∧ w.cell? ⟨Y, 2, none⟩ = some (.slice pa q.parts.length pc) ∧
    w.cell? ⟨Y, 3, none⟩ = some (.slice la q.lives.length lc) ∧ PlanFrom w N (planV q pa pc la lc) q := by
  obtain ⟨h1, h2, pa, la, pc, lc, h3, h4⟩ := h
  exact ⟨pa, la, pc, lc, cells_of h3 0 _ rfl, cells_of h3 1 _ rfl, cells_of h3 2 _ rfl, cells_of h3 3 _ rfl, h4⟩

/-- The plan of one block is written into another below the mark. -/
theorem PlanAt.copy {w : World} {N N' X Y : Nat} {q : Pl} {z0 z1 z2 z3 a b c d : Value} (h : PlanAt w N Y q) (hX : X < N) (hN : N' ≤ X) (hz : w.heap[X]? = some (.cells #[z0, z1, z2, z3] 52 (0, 0)))
    (ha : w.cell? ⟨Y, 0, none⟩ = some a) (hb : w.cell? ⟨Y, 1, none⟩ = some b) (hc : w.cell? ⟨Y, 2, none⟩ = some c) (hd : w.cell? ⟨Y, 3, none⟩ = some d) :
    PlanAt ((((w.setCell ⟨X, 0, none⟩ a).setCell ⟨X, 1, none⟩ b).setCell ⟨X, 2, none⟩ c).setCell ⟨X, 3, none⟩ d) N' X q := by
  obtain ⟨pa, la, pc, lc, e0, e1, e2, e3, hf⟩ := h.cells
  rw [e0, Option.some.injEq] at ha
  rw [e1, Option.some.injEq] at hb
  rw [e2, Option.some.injEq] at hc
  rw [e3, Option.some.injEq] at hd
  subst ha hb hc hd
  exact PlanAt.put hf hz hN hX

/-- A plan in a block of its own, its words wherever. -/
def PlanIn (w : World) (Y : Nat) (q : Pl) : Prop := Y < w.heap.size ∧ ∃ (pa la : Option Addr) (pc lc : Nat),
  w.heap[Y]? = some (.cells #[.int .i64 q.nodes, .int .i64 q.copies, .slice pa q.parts.length pc, .slice la q.lives.length lc] 52 (0, 0)) ∧ PlanRd w (planV q pa pc la lc) q

theorem PlanAt.toIn {w : World} {N Y : Nat} {q : Pl} (h : PlanAt w N Y q) : PlanIn w Y q := by
  obtain ⟨h1, h2, pa, la, pc, lc, h3, h4⟩ := h
  exact ⟨h2, pa, la, pc, lc, h3, h4.rd⟩

theorem PlanIn.below {w w' : World} {Y : Nat} {q : Pl} (h : PlanIn w Y q) (hb : Below w.heap.size w w') : PlanIn w' Y q := by
  obtain ⟨h2, pa, la, pc, lc, h3, h4⟩ := h
  exact ⟨by have := hb.size; omega, pa, la, pc, lc, (hb.block Y h2).trans h3, h4.below hb⟩

/-- What stands in its block, in every world behind this one; where its places are. -/
theorem PlanIn.cells {w : World} {Y : Nat} {q : Pl} (h : PlanIn w Y q) : ∃ (pa la : Option Addr) (pc lc : Nat), (∀ W, Below w.heap.size w W → W.cell? ⟨Y, 0, none⟩ = some (.int .i64 q.nodes) ∧ W.cell? ⟨Y, 1, none⟩ = some (.int .i64 q.copies) ∧ W.cell? ⟨Y, 2, none⟩ = some (.slice pa q.parts.length pc) ∧
    W.cell? ⟨Y, 3, none⟩ = some (.slice la q.lives.length lc) ∧ PlanRd W (.agg #[.int .i64 q.nodes, .int .i64 q.copies, .slice pa q.parts.length pc, .slice la q.lives.length lc]) q) ∧
    ∀ k (_ : k < q.parts.length), ∃ b off ca cc, pa = some ⟨b, off, none⟩ ∧ ∀ W, Below w.heap.size w W → W.cell? ⟨b, off + k * 3, none⟩ = some (.int .i64 q.parts[k].epoch) ∧
      W.cell? ⟨b, off + k * 3 + 1, none⟩ = some (.slice ca q.parts[k].chain.length cc) ∧ W.cell? ⟨b, off + k * 3 + 2, none⟩ = some (.int .i64 q.parts[k].learner) ∧ IntsRd W (.slice ca q.parts[k].chain.length cc) q.parts[k].chain := by
  obtain ⟨h2, pa, la, pc, lc, h3, h4⟩ := h
  refine ⟨pa, la, pc, lc, fun W hW => ?_, fun k hkl => ?_⟩
  · have hk := (hW.block Y h2).trans h3
    exact ⟨cells_of hk 0 _ rfl, cells_of hk 1 _ rfl, cells_of hk 2 _ rfl, cells_of hk 3 _ rfl, h4.below hW⟩
  · obtain ⟨pv, lv, e, hp, hl⟩ := h4
    simp only [planV, Value.agg.injEq, Array.mk.injEq, List.cons.injEq, true_and, and_true] at e
    obtain ⟨rfl, rfl⟩ := e
    obtain ⟨a, cap, e2, -, -, hC⟩ := hp.cells
    simp only [Value.slice.injEq, true_and] at e2
    obtain ⟨rfl, rfl⟩ := e2
    obtain ⟨b, off, ca, cc, e3, hb, g0, g1, g2, hr⟩ := hC k hkl
    exact ⟨b, off, ca, cc, e3, fun W hW => ⟨below_some hW g0 hb, below_some hW g1 hb, below_some hW g2 hb, hr.below hW⟩⟩

theorem IntsRd.at {w : World} {a : Option Addr} {n cap : Nat} {l : List Int} (h : IntsRd w (.slice a n cap) l) : ∀ k (_ : k < l.length), ∃ b off, a = some ⟨b, off, none⟩ ∧ ∀ W, Below w.heap.size w W → W.cell? ⟨b, off + k, none⟩ = some (.int .i64 l[k]) := by
  obtain ⟨a', c', e, -, -, hC⟩ := h.cells
  simp only [Value.slice.injEq] at e
  obtain ⟨rfl, -, rfl⟩ := e
  intro k hk
  obtain ⟨b, off, e, hb, hc⟩ := hC k hk
  exact ⟨b, off, e, fun W hW => below_some hW hc hb⟩

/-- The two ways of a region that calls and keeps the plan: its block is made behind the call .. -/
theorem cutA {wr w5 : World} {a b c d : Value} {q : Pl} (h : PlanFrom w5 wr.drew.heap.size (.agg #[a, b, c, d]) q) (hb : Below wr.drew.heap.size wr.drew w5) :
    PlanAt (w5.alloc (.cells #[a, b, c, d] 52)) wr.heap.size w5.heap.size q ∧ Below wr.heap.size wr (w5.alloc (.cells #[a, b, c, d] 52)) := by
  have hs : wr.heap.size ≤ w5.heap.size := hb.size
  have hb' : Below wr.heap.size wr w5 := (Below.refl wr.heap.size wr).drew.trans hb
  exact ⟨PlanAt.new h hs, hb'.alloc hs _⟩

/-- .. or ahead of it. -/
theorem cutB {wr w5 : World} {a b c d z0 z1 z2 z3 : Value} {q : Pl} (h : PlanFrom w5 (wr.alloc (.cells #[z0, z1, z2, z3] 52)).drew.heap.size (.agg #[a, b, c, d]) q)
    (hb : Below (wr.alloc (.cells #[z0, z1, z2, z3] 52)).drew.heap.size (wr.alloc (.cells #[z0, z1, z2, z3] 52)).drew w5) :
    PlanAt ((((w5.setCell ⟨wr.heap.size, 0, none⟩ a).setCell ⟨wr.heap.size, 1, none⟩ b).setCell ⟨wr.heap.size, 2, none⟩ c).setCell ⟨wr.heap.size, 3, none⟩ d) wr.heap.size wr.heap.size q ∧
      Below wr.heap.size wr ((((w5.setCell ⟨wr.heap.size, 0, none⟩ a).setCell ⟨wr.heap.size, 1, none⟩ b).setCell ⟨wr.heap.size, 2, none⟩ c).setCell ⟨wr.heap.size, 3, none⟩ d) := by
  have hz : w5.heap[wr.heap.size]? = some (.cells #[z0, z1, z2, z3] 52 (0, 0)) := (hb.block wr.heap.size (by simp)).trans (heap_alloc_new wr _)
  have hsz : (wr.alloc (.cells #[z0, z1, z2, z3] 52)).drew.heap.size = wr.heap.size + 1 := by simp
  have hlt := (Array.getElem?_eq_some_iff.1 hz).1
  rw [hsz] at h
  refine ⟨PlanAt.put h hz (Nat.le_refl _) (by omega), ?_⟩
  have h1 : Below wr.heap.size wr (wr.alloc (.cells #[z0, z1, z2, z3] 52)).drew := ((Below.refl wr.heap.size wr).alloc (Nat.le_refl _) _).drew
  exact (h1.trans (hb.mono (by omega))).trans ((upd_set4 w5 wr.heap.size a b c d).toBelow (by omega) (fun k e => by omega))

/-- Apply's contract, its plan written out. -/
theorem Apply_out {w : World} {v : Value} {p : Pl} (h : PlanRd w v p) (x : Event) : Calls Tryz.prog 24 #[v, .agg #[.int .i64 x.kind, .int .i64 x.node, .int .i64 x.part, .int .i64 x.n]] w fun e w' =>
    ∃ (pa la ta : Option Addr) (pc lc tc l j m : Nat) (n k : Int), e = .returned (.tuple #[.agg #[.int .i64 n, .int .i64 k, .slice pa l pc, .slice la j lc], .slice ta m tc, .int .i64 (applyP p x).2.2]) ∧
      PlanFrom w' w.heap.size (.agg #[.int .i64 n, .int .i64 k, .slice pa l pc, .slice la j lc]) (applyP p x).1 ∧ TurnRd w' (.slice ta m tc) (applyP p x).2.1 ∧ m = (applyP p x).2.1.length ∧ Below w.heap.size w w' := by
  refine (Apply_any h x).mono ?_
  rintro e w' ⟨v, tv, rfl, h1, h2, h3⟩
  obtain ⟨pa, la, pc, lc, l, j, n, k, rfl⟩ := h1.split
  obtain ⟨ta, tc, rfl, -⟩ := h2.rd.cells
  exact ⟨pa, la, ta, pc, lc, tc, l, j, _, n, k, rfl, h1, h2, rfl, h3⟩

theorem Apply_to {w : World} {v : Value} {p : Pl} (h : PlanRd w v p) (a b c d : Int) {q : Pl} {t : List Int} {e0 : Int} (hR : applyP p ⟨a, b, c, d⟩ = (q, t, e0)) : Calls Tryz.prog 24 #[v, .agg #[.int .i64 a, .int .i64 b, .int .i64 c, .int .i64 d]] w fun e w' =>
    ∃ (pa la ta : Option Addr) (pc lc tc l j : Nat) (n k : Int), e = .returned (.tuple #[.agg #[.int .i64 n, .int .i64 k, .slice pa l pc, .slice la j lc], .slice ta t.length tc, .int .i64 e0]) ∧
      PlanFrom w' w.heap.size (.agg #[.int .i64 n, .int .i64 k, .slice pa l pc, .slice la j lc]) q ∧ Below w.heap.size w w' := by
  refine (Apply_out h ⟨a, b, c, d⟩).mono ?_
  rw [hR]
  rintro e w' ⟨pa, la, ta, pc, lc, tc, l, j, m, n, k, rfl, h1, -, rfl, h3⟩
  exact ⟨pa, la, ta, pc, lc, tc, l, j, n, k, rfl, h1, h3⟩
end Go.Proofs.YtcpaaleogmiamaaGreatDoor
namespace Go.Proofs.YtcpaaleogmiamaaGreatDoor
open Go.RowKit

theorem HmW.plan {w0 w : World} {hb b mb q : Nat} {L : TpL} {t : Tp} {v : Value} {p : Pl} {M : List (Int × Int)} {life : Int} {dead : Bool} (h : HmW w0 w hb b mb q L t v p M life dead) {pv lv : Value} {p' : Pl} (hv : PlanOff w (HmF hb b mb q L) (.agg #[.int .i64 p'.nodes, .int .i64 p'.copies, pv, lv]) p') :
    HmW w0 ((((w.setCell ⟨hb, 1, none⟩ (.int .i64 p'.nodes)).setCell ⟨hb, 2, none⟩ (.int .i64 p'.copies)).setCell ⟨hb, 3, none⟩ pv).setCell ⟨hb, 4, none⟩ lv) hb b mb q L t (.agg #[.int .i64 p'.nodes, .int .i64 p'.copies, pv, lv]) p' M life dead ∧
      Upd (fun k => k = hb) w ((((w.setCell ⟨hb, 1, none⟩ (.int .i64 p'.nodes)).setCell ⟨hb, 2, none⟩ (.int .i64 p'.copies)).setCell ⟨hb, 3, none⟩ pv).setCell ⟨hb, 4, none⟩ lv) := by
  obtain ⟨n1, n2, n3, n4, n5⟩ := h.hm.apart
  obtain ⟨pv0, lv0, e, hblk⟩ := h.hm.blk
  obtain ⟨es, cl, m1, m2, m3⟩ := h.hm.miss
  have hu : Upd (fun k => k = hb) w ((((w.setCell ⟨hb, 1, none⟩ (.int .i64 p'.nodes)).setCell ⟨hb, 2, none⟩ (.int .i64 p'.copies)).setCell ⟨hb, 3, none⟩ pv).setCell ⟨hb, 4, none⟩ lv) :=
    (((upd_set1 w hb 1 _).trans (upd_set1 _ hb 2 _)).trans (upd_set1 _ hb 3 _)).trans (upd_set1 _ hb 4 _)
  refine ⟨⟨⟨⟨pv, lv, rfl, ?_⟩, h.hm.tape.upd hu (fun k hk e => n1 (by rw [← e]; exact hk)), hv.upd hu (fun k e => .inl e), ⟨es, cl, (hu.block _ n5 (fun e => n3 e.symm)).trans m1, m2, m3⟩, h.hm.ne⟩, h.base.trans (hu.toBelow h.base.size (fun k e => h.above k (.inl e))), h.above⟩, hu⟩
  exact setCell_same (o := 4) (v := lv) (setCell_same (o := 3) (v := pv) (setCell_same (o := 2) (v := .int .i64 p'.copies) (setCell_same (o := 1) (v := .int .i64 p'.nodes) hblk)))

theorem kept0 {wr w5 : World} {z0 z1 z2 z3 : Value} (hb : Below (wr.alloc (.cells #[z0, z1, z2, z3] 52)).drew.heap.size (wr.alloc (.cells #[z0, z1, z2, z3] 52)).drew w5) :
    w5.heap[wr.heap.size]? = some (.cells #[z0, z1, z2, z3] 52 (0, 0)) :=
  (hb.block wr.heap.size (by simp)).trans (heap_alloc_new wr _)
theorem cutTA {wr w5 : World} {a b c d tv : Value} {q : Pl} {l : List Int} (h : PlanFrom w5 wr.drew.heap.size (.agg #[a, b, c, d]) q) (hb : Below wr.drew.heap.size wr.drew w5) (ht : TurnRd w5 tv l) :
    PlanAt (w5.alloc (.cells #[a, b, c, d] 52)) wr.heap.size w5.heap.size q ∧ Below wr.heap.size wr (w5.alloc (.cells #[a, b, c, d] 52)) ∧ TurnRd (w5.alloc (.cells #[a, b, c, d] 52)) tv l :=
  ⟨(cutA h hb).1, (cutA h hb).2, ht.below (below_alloc _ _)⟩
theorem cutTB {wr w5 : World} {a b c d z0 z1 z2 z3 tv : Value} {q : Pl} {l : List Int} (h : PlanFrom w5 (wr.alloc (.cells #[z0, z1, z2, z3] 52)).drew.heap.size (.agg #[a, b, c, d]) q)
    (hb : Below (wr.alloc (.cells #[z0, z1, z2, z3] 52)).drew.heap.size (wr.alloc (.cells #[z0, z1, z2, z3] 52)).drew w5) (ht : TurnRd w5 tv l) :
    PlanAt ((((w5.setCell ⟨wr.heap.size, 0, none⟩ a).setCell ⟨wr.heap.size, 1, none⟩ b).setCell ⟨wr.heap.size, 2, none⟩ c).setCell ⟨wr.heap.size, 3, none⟩ d) wr.heap.size wr.heap.size q ∧
      Below wr.heap.size wr ((((w5.setCell ⟨wr.heap.size, 0, none⟩ a).setCell ⟨wr.heap.size, 1, none⟩ b).setCell ⟨wr.heap.size, 2, none⟩ c).setCell ⟨wr.heap.size, 3, none⟩ d) ∧
      TurnRd ((((w5.setCell ⟨wr.heap.size, 0, none⟩ a).setCell ⟨wr.heap.size, 1, none⟩ b).setCell ⟨wr.heap.size, 2, none⟩ c).setCell ⟨wr.heap.size, 3, none⟩ d) tv l :=
  ⟨(cutB h hb).1, (cutB h hb).2, ht.upd (F := fun k => k = wr.heap.size) (by rintro k rfl; exact ⟨_, _, kept0 hb, by decide⟩) (upd_set4 w5 wr.heap.size a b c d)⟩

theorem und_Msgs : Tryz.prog.underlying 32 = some (.slice 47) := by kernel_rfl
theorem info_Msg : (Tryz.prog.info? 47).map (fun i => (i.zero, i.size, i.bytes)) = some (some (.agg msg0), 38, 432) := by kernel_rfl

theorem HmW.notInt {w0 w : World} {hb b mb q : Nat} {L : TpL} {t : Tp} {v : Value} {p : Pl} {M : List (Int × Int)} {life : Int} {dead : Bool} (h : HmW w0 w hb b mb q L t v p M life dead) : ∀ k, HmF hb b mb q L k → ¬ ∃ cur, w.heap[k]? = some (.cells cur 3 (0, 0)) := by
  rintro k hk ⟨cur, hc⟩
  rcases hk with rfl | rfl | hk
  · obtain ⟨pv, lv, -, hblk⟩ := h.hm.blk
    rw [hblk] at hc
    simp at hc
  · obtain ⟨es, cl, m1, -⟩ := h.hm.miss
    rw [m1] at hc
    simp at hc
  · rcases h.hm.tape.kinds k hk with ⟨cs, h1⟩ | ⟨es, cl, h1⟩ | ⟨cs, h1⟩ <;> rw [h1] at hc <;> simp at hc
theorem HmW.fLt {w0 w : World} {hb b mb q : Nat} {L : TpL} {t : Tp} {v : Value} {p : Pl} {M : List (Int × Int)} {life : Int} {dead : Bool} (h : HmW w0 w hb b mb q L t v p M life dead) : ∀ k, HmF hb b mb q L k → k < w.heap.size := by
  rintro k (rfl | rfl | hk)
  · exact h.hm.apart.2.2.2.1
  · exact h.hm.apart.2.2.2.2
  · exact h.hm.tape.fLt k hk

theorem part_pos {x : Event} (h : eventB x = true) : 0 ≤ x.part := by
  unfold eventB at h
  repeat' split at h
  all_goals simp only [Bool.and_eq_true, inB_iff, decide_eq_true_eq, Bool.false_eq_true] at h
  all_goals omega

theorem turned_in {p q : Pl} {x : Event} {t : List Int} (h : applyP p x = (q, t, 0)) : t.length ≤ 4 ∧ ∀ k (hk : k < t.length), ∃ j : Nat, t[k] = (j : Int) ∧ j < q.parts.length := by
  obtain ⟨hc, h0, ht, -, -, -, hl, -⟩ := applyP_yes h
  obtain ⟨hg, he, hnd, hpt⟩ := canB_iff.1 hc
  have hq := applyP_good h
  have h4 := (goodP_iff.1 hq).2.2.1.2
  obtain ⟨hn, hr⟩ := changeP_turned (p := p) (x := x) (part_pos he) hpt h0
  rw [← ht] at hn hr
  refine ⟨?_, ?_⟩
  · have := short_of (l := t.map (· + 1)) 4 (List.Pairwise.map (R := fun a b => a ≠ b) (S := fun a b => a ≠ b) (· + 1) (fun a b hab e => hab (by omega)) hn) (fun y hy => by
      obtain ⟨i, hi, rfl⟩ := List.mem_map.1 hy
      have := hr i hi
      omega)
    simpa using this
  · intro k hk
    have := hr t[k] (List.getElem_mem hk)
    exact ⟨t[k].toNat, by omega, by omega⟩
end Go.Proofs.YtcpaaleogmiamaaGreatDoor
namespace Go.Proofs.YtcpaaleogmiamaaGreatDoor
open Go.Shelf
def Tryz.keysT_ren : Go.Shelf.Ren := ⟨fun | 7 => 118 | 10 => 164 | n => n, fun | 23 => 127 | 26 => 9 | 3 => 148 | 28 => 190 | 0 => 0 | 27 => 189 | 33 => 175 | 4 => 4 | n => n, fun | n => n⟩
theorem Tryz.keysT : Go.Proofs.SlLaysZ.n7 Tryz.prog Tryz.keysT_ren := {
  mixed := by kernel_rfl
  f7 := ⟨Tryz.f118.name, by decide, Tryz.func118.trans (congrArg some (by kernel_rfl))⟩
  f10 := ⟨Tryz.f164.name, by decide, Tryz.func164.trans (congrArg some (by kernel_rfl))⟩
  t0 := Tryz.underlying0
  a0 := Tryz.isAgg0
  z0 := Tryz.sizeOf0
  v0 := Tryz.zeroValue0
  t4 := Tryz.underlying4
  a4 := Tryz.isAgg4
  z4 := Tryz.sizeOf4
  v4 := Tryz.zeroValue4
  t23 := Tryz.underlying127
  a23 := Tryz.isAgg127
  z23 := Tryz.sizeOf127
  v23 := Tryz.zeroValue127
  t26 := Tryz.underlying9
  a26 := Tryz.isAgg9
  z26 := Tryz.sizeOf9
  v26 := Tryz.zeroValue9
  t27 := Tryz.underlying189
  a27 := Tryz.isAgg189
  z27 := Tryz.sizeOf189
  v27 := Tryz.zeroValue189
  t28 := Tryz.underlying190
  a28 := Tryz.isAgg190
  z28 := Tryz.sizeOf190
  v28 := Tryz.zeroValue190
  t33 := Tryz.underlying175
  a33 := Tryz.isAgg175
  z33 := Tryz.sizeOf175
  v33 := Tryz.zeroValue175 }
def Tryz.sortedT_ren : Go.Shelf.Ren := ⟨fun | 6 => 117 | 8 => 162 | 9 => 163 | 11 => 202 | 13 => 204 | 12 => 203 | 23 => 245 | 24 => 246 | 14 => 236 | 15 => 237 | 16 => 238 | 17 => 239 | 18 => 240 | 19 => 241 | 20 => 242 | 21 => 243 | 22 => 244 | 25 => 265 | 26 => 266 | 27 => 267 | 28 => 268 | 29 => 269 | 30 => 270 | 31 => 283 | n => n, fun | 26 => 9 | 28 => 190 | 24 => 106 | 0 => 0 | 3 => 3 | 37 => 54 | 48 => 223 | 50 => 249 | 4 => 4 | 40 => 289 | 39 => 288 | 45 => 182 | 5 => 5 | 9 => 9 | 51 => 311 | 55 => 233 | 57 => 327 | 58 => 328 | 33 => 175 | n => n, fun | n => n⟩
theorem Tryz.sortedT : Go.Proofs.SlLaysZ.n6 Tryz.prog Tryz.sortedT_ren := {
  mixed := by kernel_rfl
  f6 := ⟨Tryz.f117.name, by decide, Tryz.func117.trans (congrArg some (by kernel_rfl))⟩
  f8 := ⟨Tryz.f162.name, by decide, Tryz.func162.trans (congrArg some (by kernel_rfl))⟩
  f11 := ⟨Tryz.f202.name, by decide, Tryz.func202.trans (congrArg some (by kernel_rfl))⟩
  t0 := Tryz.underlying0
  a0 := Tryz.isAgg0
  z0 := Tryz.sizeOf0
  v0 := Tryz.zeroValue0
  t24 := Tryz.underlying106
  a24 := Tryz.isAgg106
  z24 := Tryz.sizeOf106
  v24 := Tryz.zeroValue106
  t26 := Tryz.underlying9
  a26 := Tryz.isAgg9
  z26 := Tryz.sizeOf9
  v26 := Tryz.zeroValue9
  t28 := Tryz.underlying190
  a28 := Tryz.isAgg190
  z28 := Tryz.sizeOf190
  v28 := Tryz.zeroValue190
  i26 := by kernel_rfl }
def Tryz.sortT_ren : Go.Shelf.Ren := ⟨fun | 6 => 163 | 8 => 204 | 9 => 203 | 19 => 245 | 20 => 246 | 21 => 236 | 22 => 237 | 23 => 238 | 24 => 239 | 25 => 240 | 26 => 241 | 27 => 242 | 28 => 243 | 29 => 244 | 36 => 265 | 31 => 266 | 32 => 267 | 37 => 268 | 38 => 269 | 39 => 270 | 41 => 283 | n => n, fun | 27 => 106 | 29 => 9 | 3 => 3 | 32 => 54 | 26 => 106 | 0 => 0 | 44 => 223 | 46 => 249 | 4 => 4 | 36 => 289 | 35 => 288 | 41 => 182 | 5 => 5 | 9 => 9 | 53 => 311 | 57 => 233 | 63 => 327 | 64 => 328 | n => n, fun | n => n⟩
theorem Tryz.sortT : Go.Proofs.SlLaysM.n6 Tryz.prog Tryz.sortT_ren := {
  mixed := by kernel_rfl
  f6 := ⟨Tryz.f163.name, by decide, Tryz.func163.trans (congrArg some (by kernel_rfl))⟩
  f8 := Tryz.func204.trans (congrArg some (by kernel_rfl))
  f9 := ⟨Tryz.f203.name, by decide, Tryz.func203.trans (congrArg some (by kernel_rfl))⟩
  f19 := Tryz.func245.trans (congrArg some (by kernel_rfl))
  f20 := Tryz.func246.trans (congrArg some (by kernel_rfl))
  f21 := ⟨Tryz.f236.name, by decide, Tryz.func236.trans (congrArg some (by kernel_rfl))⟩
  f22 := ⟨Tryz.f237.name, by decide, Tryz.func237.trans (congrArg some (by kernel_rfl))⟩
  f23 := ⟨Tryz.f238.name, by decide, Tryz.func238.trans (congrArg some (by kernel_rfl))⟩
  f24 := ⟨Tryz.f239.name, by decide, Tryz.func239.trans (congrArg some (by kernel_rfl))⟩
  f25 := ⟨Tryz.f240.name, by decide, Tryz.func240.trans (congrArg some (by kernel_rfl))⟩
  f26 := ⟨Tryz.f241.name, by decide, Tryz.func241.trans (congrArg some (by kernel_rfl))⟩
  f27 := ⟨Tryz.f242.name, by decide, Tryz.func242.trans (congrArg some (by kernel_rfl))⟩
  f28 := ⟨Tryz.f243.name, by decide, Tryz.func243.trans (congrArg some (by kernel_rfl))⟩
  f29 := ⟨Tryz.f244.name, by decide, Tryz.func244.trans (congrArg some (by kernel_rfl))⟩
  f31 := Tryz.func266.trans (congrArg some (by kernel_rfl))
  f32 := Tryz.func267.trans (congrArg some (by kernel_rfl))
  f36 := ⟨Tryz.f265.name, by decide, Tryz.func265.trans (congrArg some (by kernel_rfl))⟩
  f37 := ⟨Tryz.f268.name, by decide, Tryz.func268.trans (congrArg some (by kernel_rfl))⟩
  f38 := ⟨Tryz.f269.name, by decide, Tryz.func269.trans (congrArg some (by kernel_rfl))⟩
  f39 := ⟨Tryz.f270.name, by decide, Tryz.func270.trans (congrArg some (by kernel_rfl))⟩
  f41 := ⟨Tryz.f283.name, by decide, Tryz.func283.trans (congrArg some (by kernel_rfl))⟩
  t0 := Tryz.underlying0
  a0 := Tryz.isAgg0
  z0 := Tryz.sizeOf0
  v0 := Tryz.zeroValue0
  t3 := Tryz.underlying3
  a3 := Tryz.isAgg3
  z3 := Tryz.sizeOf3
  v3 := Tryz.zeroValue3
  t4 := Tryz.underlying4
  a4 := Tryz.isAgg4
  z4 := Tryz.sizeOf4
  v4 := Tryz.zeroValue4
  t5 := Tryz.underlying5
  a5 := Tryz.isAgg5
  z5 := Tryz.sizeOf5
  v5 := Tryz.zeroValue5
  t9 := Tryz.underlying9
  a9 := Tryz.isAgg9
  z9 := Tryz.sizeOf9
  v9 := Tryz.zeroValue9
  t26 := Tryz.underlying106
  a26 := Tryz.isAgg106
  z26 := Tryz.sizeOf106
  v26 := Tryz.zeroValue106
  t27 := Tryz.underlying106
  a27 := Tryz.isAgg106
  z27 := Tryz.sizeOf106
  v27 := Tryz.zeroValue106
  t29 := Tryz.underlying9
  a29 := Tryz.isAgg9
  z29 := Tryz.sizeOf9
  v29 := Tryz.zeroValue9
  t32 := Tryz.underlying54
  a32 := Tryz.isAgg54
  z32 := Tryz.sizeOf54
  v32 := Tryz.zeroValue54
  t35 := Tryz.underlying288
  a35 := Tryz.isAgg288
  z35 := Tryz.sizeOf288
  v35 := Tryz.zeroValue288
  t36 := Tryz.underlying289
  a36 := Tryz.isAgg289
  z36 := Tryz.sizeOf289
  v36 := Tryz.zeroValue289
  t41 := Tryz.underlying182
  a41 := Tryz.isAgg182
  z41 := Tryz.sizeOf182
  v41 := Tryz.zeroValue182
  t44 := Tryz.underlying223
  a44 := Tryz.isAgg223
  z44 := Tryz.sizeOf223
  v44 := Tryz.zeroValue223
  t46 := Tryz.underlying249
  a46 := Tryz.isAgg249
  z46 := Tryz.sizeOf249
  v46 := Tryz.zeroValue249
  t53 := Tryz.underlying311
  a53 := Tryz.isAgg311
  z53 := Tryz.sizeOf311
  v53 := Tryz.zeroValue311
  t57 := Tryz.underlying233
  a57 := Tryz.isAgg233
  z57 := Tryz.sizeOf233
  v57 := Tryz.zeroValue233
  t63 := Tryz.underlying327
  a63 := Tryz.isAgg327
  z63 := Tryz.sizeOf327
  v63 := Tryz.zeroValue327
  t64 := Tryz.underlying328
  a64 := Tryz.isAgg328
  z64 := Tryz.sizeOf328
  v64 := Tryz.zeroValue328 }
end Go.Proofs.YtcpaaleogmiamaaGreatDoor
