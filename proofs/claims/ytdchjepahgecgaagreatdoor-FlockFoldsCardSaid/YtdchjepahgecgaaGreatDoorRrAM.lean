/- The walk of the reference's Apply of layer 11. -/
import Derived.Test.YtdchjepahgecgaaGreatDoorMq44
import Derived.Test.YtdchjepahgecgaaGreatDoorRrR2M
import Derived.Test.YtdchjepahgecgaaGreatDoorMq35
namespace Go.Proofs.YtdchjepahgecgaaGreatDoor
open Go.RowKit

/-- What stands ahead of Apply's tests: the groups' copy, what the record says. -/
structure RaW (w W : World) (oa : Option Addr) (oc : Nat) (m : List Fv) (q : Sd) (ma : Option Addr) (mc : Nat) (sb : Nat) : Prop where
  own : OwnF W (w.heap.size + 1) (.slice oa m.length oc) m
  mem : W.ownsRow (w.heap.size + 1) 9 1 (.slice ma q.members.length mc) q.members.length (strCells q.members)
  box : W.heap[sb]? = some (.cells (sdC q ma mc) 68 (0, 0))
  bel : Below w.heap.size w W
  low : w.heap.size < sb

theorem RaW.cells {w W : World} {oa : Option Addr} {oc : Nat} {m : List Fv} {q : Sd} {ma : Option Addr} {mc sb : Nat} (h : RaW w W oa oc m q ma mc sb) :
    W.cell? ⟨sb, 0, none⟩ = some (.int .i64 q.kind) ∧ W.cell? ⟨sb, 1, none⟩ = some (.string (bs q.group)) ∧ W.cell? ⟨sb, 2, none⟩ = some (.int .i64 q.gen) ∧ W.cell? ⟨sb, 3, none⟩ = some (.int .i64 q.parts) ∧
      W.cell? ⟨sb, 4, none⟩ = some (.slice ma q.members.length mc) ∧ W.cell? ⟨sb, 5, none⟩ = some (.int .i64 q.part) ∧ W.cell? ⟨sb, 6, none⟩ = some (.int .i64 q.off) :=
  ⟨cells_of h.box 0 _ rfl, cells_of h.box 1 _ rfl, cells_of h.box 2 _ rfl, cells_of h.box 3 _ rfl, cells_of h.box 4 _ rfl, cells_of h.box 5 _ rfl, cells_of h.box 6 _ rfl⟩

theorem RaW.below {w W W' : World} {oa : Option Addr} {oc : Nat} {m : List Fv} {q : Sd} {ma : Option Addr} {mc sb : Nat} (h : RaW w W oa oc m q ma mc sb) (hb : Below W.heap.size W W') : RaW w W' oa oc m q ma mc sb :=
  ⟨h.own.below hb, owns_upd h.mem (Upd.of_below (F := fun _ => False) hb) (fun _ _ h => h), (hb.block _ (Array.getElem?_eq_some_iff.1 h.box).1).trans h.box, h.bel.trans (hb.mono h.bel.size), h.low⟩
theorem RaW.drewN {w W : World} {oa : Option Addr} {oc : Nat} {m : List Fv} {q : Sd} {ma : Option Addr} {mc sb : Nat} (h : RaW w W oa oc m q ma mc sb) (n : Nat) : RaW w (W.drewN n) oa oc m q ma mc sb := h.below (below_drewN (Below.refl _ _) n)

/-- The word of a group in the copy. -/
theorem RaW.word {w W : World} {oa : Option Addr} {oc : Nat} {m : List Fv} {q : Sd} {ma : Option Addr} {mc sb : Nat} (h : RaW w W oa oc m q ma mc sb) {k : Nat} (hk : k < m.length) : ∃ g mv mvc pv pvc, oa = some ⟨g, 0, none⟩ ∧ g < W.heap.size ∧ w.heap.size < g ∧ g ≠ sb ∧
    m[k].1 = .slice mv m[k].2.2.members.length mvc ∧ m[k].2.1 = .slice pv m[k].2.2.points.length pvc ∧
    W.cell? ⟨g, k * 5, none⟩ = some (.string (bs m[k].2.2.name)) ∧ W.cell? ⟨g, k * 5 + 1, none⟩ = some (.int .i64 m[k].2.2.gen) ∧ W.cell? ⟨g, k * 5 + 2, none⟩ = some (.int .i64 m[k].2.2.parts) ∧
    W.cell? ⟨g, k * 5 + 3, none⟩ = some (.slice mv m[k].2.2.members.length mvc) ∧ W.cell? ⟨g, k * 5 + 4, none⟩ = some (.slice pv m[k].2.2.points.length pvc) ∧ ∀ r, W.frozen? ⟨g, r, none⟩ = false := by
  obtain ⟨g, rfl⟩ : ∃ g, oa = some ⟨g, 0, none⟩ := by
    rcases h.own.own.2 with ⟨h1, h2⟩ | ⟨g, cap, cur, h1, -⟩
    · omega
    · simp only [Value.slice.injEq] at h1; exact ⟨g, h1.1⟩
  have hg := owns_lt h.own.own g rfl
  obtain ⟨mv, mvc, e1, -⟩ := (Strs.of_owns (h.own.mem k hk hk)).cells
  obtain ⟨pv, pvc, e2, -⟩ := (PtsRd.of_owns (h.own.pts k hk hk)).cells
  have hw := h.own.word rfl k hk
  have h3 := hw 3 m[k].1 rfl
  have h4 := hw 4 m[k].2.1 rfl
  rw [e1] at h3
  rw [e2] at h4
  refine ⟨g, mv, mvc, pv, pvc, rfl, hg.2, by omega, ?_, e1, e2, (hw 0 _ rfl).1, (hw 1 _ rfl).1, (hw 2 _ rfl).1, h3.1, h4.1, fun r => h.own.own.frozenAt _⟩
  intro e
  obtain ⟨cur, hc⟩ := owns_cells h.own.own g rfl
  rw [e, h.box] at hc
  simp at hc

/-- What the reference's Apply answers: groups that are read. -/
def RApplyTo (w : World) (L : List Fk) (e : Ending) (w' : World) : Prop := ∃ v, e = .returned v ∧ FksRd w' v L ∧ Below w.heap.size w w'

/-- The calls ahead of the tests. -/
structure RaCalls (w : World) (v : Value) (L : List Fk) (x : Rc) (q : Sd) : Prop where
  copy : Calls Tryz.prog 28 #[v] (w.alloc (.cells #[.int .i64 x.off, .string (bs x.key), .string (bs x.val), .bool x.gone] 28)) (ApplyTo (w.alloc (.cells #[.int .i64 x.off, .string (bs x.key), .string (bs x.val), .bool x.gone] 28)) L)
  read : ∀ W, Calls Tryz.prog 29 #[.agg #[.int .i64 x.off, .string (bs x.key), .string (bs x.val), .bool x.gone]] W (SaidTo W q)

theorem raCalls {w : World} {v : Value} {L : List Fk} (h : FksRd w v L) (ho : FksOk L) (x : Rc) (hk : x.key.length ≤ 100000) (hv : x.val.length ≤ 100000) : RaCalls w v L x (sdOf (readP x.key x.val x.gone).1) :=
  ⟨R11Copy_any (h.below (below_alloc _ _)) ho.small, fun _ => R11Read_all _ _ _ _ hk hv⟩

/-- Behind the calls. -/
theorem raW {w w1 w2 : World} {oc : Nat} {oa : Option Addr} {m : List Fv} {x : Rc} {q : Sd} {ma : Option Addr} {mc : Nat} (hown : OwnF w1 (w.heap.size + 1) (.slice oa m.length oc) m)
    (hb1 : Below (w.heap.size + 1) (w.alloc (.cells #[.int .i64 x.off, .string (bs x.key), .string (bs x.val), .bool x.gone] 28)) w1)
    (hm : w2.ownsRow w1.heap.size 9 1 (.slice ma q.members.length mc) q.members.length (strCells q.members)) (hb2 : Below w1.heap.size w1 w2) :
    RaW w (w2.alloc (.cells (sdC q ma mc) 68)) oa oc m q ma mc w2.heap.size := by
  have h1 := hb1.size
  have h2 := hb2.size
  rw [World.size_alloc] at h1
  refine ⟨(hown.below hb2).below (below_alloc _ _), (owns_mono hm (by omega)).alloc _, heap_alloc_new _ _, ?_, by omega⟩
  exact (((below_alloc w _).trans (hb1.mono (by omega))).trans (hb2.mono (by omega))).trans ((below_alloc w2 _).mono (by omega))

/-- A row of groups under way; what stands behind their words was there before. -/
structure NxW (wn wr : World) (nv : Value) (m : List Fv) : Prop where
  own : wr.ownsRow wn.heap.size 44 5 nv m.length (fkCells m)
  rd : ∀ x ∈ m, FvRd wn x
  bel : Below wn.heap.size wn wr
theorem NxW.snoc {wn wr w7 : World} {nv nv' : Value} {m : List Fv} (h : NxW wn wr nv m) (hu : Upd (fun b => some b = nv.ownBlock) wr w7) {x : Fv} (ho : w7.ownsRow wn.heap.size 44 5 nv' (m.length + 1) (fkCells m ++ fkEl x)) (hx : FvRd wn x) : NxW wn w7 nv' (m ++ [x]) := by
  refine ⟨?_, ?_, h.bel.trans (hu.toBelow h.bel.size (fun b e => (owns_lt h.own b e.symm).1))⟩
  · have e : (m ++ [x]).length = m.length + 1 := by simp
    rw [e]
    simpa [fkCells] using ho
  · intro y hy
    rcases List.mem_append.1 hy with h1 | h1
    · exact h.rd y h1
    · rw [List.mem_singleton.1 h1]; exact hx
theorem NxW.fin {wn wr : World} {nv : Value} {m : List Fv} (h : NxW wn wr nv m) : FksRd wr nv (m.map (·.2.2)) := ⟨m, rfl, (Sl.of_owns h.own).rd, fun x hx => (h.rd x hx).below h.bel⟩

/-- A row of points under way. -/
structure PxW (wn wr : World) (N : Nat) (nv : Value) (l : List (Int × Int)) : Prop where
  own : wr.ownsRow N 58 2 nv l.length (ptCells l)
  bel : Below N wn wr
theorem PxW.snoc {wn wr w7 : World} {N : Nat} {nv nv' : Value} {l : List (Int × Int)} (h : PxW wn wr N nv l) (hu : Upd (fun b => some b = nv.ownBlock) wr w7) (x : Int × Int) (hN : N ≤ wr.heap.size) (ho : w7.ownsRow N 58 2 nv' (l.length + 1) (ptCells l ++ ptEl x)) : PxW wn w7 N nv' (l ++ [x]) := by
  refine ⟨?_, h.bel.trans (hu.toBelow hN (fun b e => (owns_lt h.own b e.symm).1))⟩
  have e : (l ++ [x]).length = l.length + 1 := by simp
  rw [e]
  simpa [ptCells] using ho

theorem theF_at {L : List Fk} {s : List UInt8} {k : Nat} (hk : k < L.length) (hh : hasFk L s = true) (he : fkAt L s = k) : theF L s = L[k] := by
  subst he
  simp only [theF, hh, if_true, List.getD, List.getElem?_eq_getElem hk, Option.getD_some]
theorem wrap_one {n : Int} (h : I64 n) (e : IntKind.i64.wrap (n - 1) = 0) : n = 1 := by
  obtain ⟨h1, h2⟩ := h
  by_cases hn : n = -9223372036854775808
  · subst hn
    revert e
    decide
  · have : IntKind.i64.wrap (n - 1) = n - 1 := IntWalk.i64_in _ (by omega)
    omega
theorem applyW_turn {L : List Fk} {q : Wd} {k : Nat} (hk : k < L.length) (hh : hasFk L q.group = true) (he : fkAt L q.group = k) (h1 : q.kind = 116) (h2 : IntKind.i64.wrap (q.gen - 1) = L[k].gen) :
    applyW L q = L.set k ⟨L[k].name, q.gen, q.parts, q.members, L[k].points⟩ := by
  have ht : turns L q = true := by simp [turns, h1, theF_at hk hh he, h2, hh]
  rw [applyW, if_pos ht, if_pos hh, he, theF_at hk hh he]
theorem applyW_noturn {L : List Fk} {q : Wd} {k : Nat} (hk : k < L.length) (hh : hasFk L q.group = true) (he : fkAt L q.group = k) (h1 : q.kind = 116) (h2 : ¬ IntKind.i64.wrap (q.gen - 1) = L[k].gen) : applyW L q = L := by
  have ht : ¬ turns L q = true := by simp [turns, theF_at hk hh he, h2]
  have hp : ¬ points L q = true := by simp [points, h1]
  rw [applyW, if_neg ht, if_neg hp]
theorem applyW_new {L : List Fk} {q : Wd} (hh : hasFk L q.group = false) (h1 : q.kind = 116) (h2 : q.gen = 1) (h3 : L.length < 4) :
    applyW L q = L.take (fkAt L q.group) ++ ⟨q.group, 1, q.parts, q.members, []⟩ :: L.drop (fkAt L q.group) := by
  have h0 : (theF L q.group).gen = 0 := by simp [theF, hh]
  have hw : IntKind.i64.wrap (q.gen - 1) = 0 := by rw [h2]; decide
  have ht : turns L q = true := by simp [turns, h1, h0, hw, h3]
  rw [applyW, if_pos ht, if_neg (by rw [hh]; simp), h2]
theorem applyW_nonew {L : List Fk} {q : Wd} (hg : I64 q.gen) (hh : hasFk L q.group = false) (h1 : q.kind = 116) (h2 : ¬ (q.gen = 1 ∧ L.length < 4)) : applyW L q = L := by
  have h0 : (theF L q.group).gen = 0 := by simp [theF, hh]
  have ht : ¬ turns L q = true := by
    intro ht
    simp only [turns, h0, hh, Bool.false_or, Bool.and_eq_true, decide_eq_true_eq] at ht
    exact h2 ⟨wrap_one hg ht.2.1, ht.2.2⟩
  have hp : ¬ points L q = true := by simp [points, h1]
  rw [applyW, if_neg ht, if_neg hp]
theorem applyW_point {L : List Fk} {q : Wd} {k : Nat} (hk : k < L.length) (hh : hasFk L q.group = true) (he : fkAt L q.group = k) (h1 : q.kind = 99) (h2 : q.gen = L[k].gen) :
    applyW L q = L.set k ⟨L[k].name, L[k].gen, L[k].parts, L[k].members, pointedP L[k].points (q.part, q.off)⟩ := by
  have ht : ¬ turns L q = true := by simp [turns, h1]
  have hp : points L q = true := by simp [points, h1, hh, theF_at hk hh he, h2]
  rw [applyW, if_neg ht, if_pos hp, he, theF_at hk hh he]
theorem applyW_nopoint {L : List Fk} {q : Wd} {k : Nat} (hk : k < L.length) (hh : hasFk L q.group = true) (he : fkAt L q.group = k) (h1 : q.kind = 99) (h2 : ¬ q.gen = L[k].gen) : applyW L q = L := by
  have ht : ¬ turns L q = true := by simp [turns, h1]
  have hp : ¬ points L q = true := by simp [points, theF_at hk hh he, h2]
  rw [applyW, if_neg ht, if_neg hp]
theorem applyW_nogroup {L : List Fk} {q : Wd} (hh : hasFk L q.group = false) (h1 : q.kind = 99) : applyW L q = L := by
  have ht : ¬ turns L q = true := by simp [turns, h1]
  have hp : ¬ points L q = true := by simp [points, hh]
  rw [applyW, if_neg ht, if_neg hp]
theorem applyW_other {L : List Fk} {q : Wd} (h1 : ¬ q.kind = 116) (h2 : ¬ q.kind = 99) : applyW L q = L := by
  have ht : ¬ turns L q = true := by simp [turns, h1]
  have hp : ¬ points L q = true := by simp [points, h2]
  rw [applyW, if_neg ht, if_neg hp]

set_option maxRecDepth 100000 in
set_option maxHeartbeats 4000000 in
theorem R11Apply_any {w : World} {v : Value} {L : List Fk} (h : FksRd w v L) (ho : FksOk L) (x : Rc) (hk : x.key.length ≤ 100000) (hv : x.val.length ≤ 100000) :
    Calls Tryz.prog 11 #[v, .agg #[.int .i64 x.off, .string (bs x.key), .string (bs x.val), .bool x.gone]] w (RApplyTo w (applyR L x)) := by
  have hqo := readP_ok x.key x.val x.gone
  have hcalls := raCalls h ho x hk hv
  have hR0 : applyR L x = applyW L (readP x.key x.val x.gone).1 := rfl
  rw [hR0]
  generalize (readP x.key x.val x.gone).1 = q at *
  obtain ⟨R, hR⟩ : ∃ R, applyW L q = R := ⟨_, rfl⟩
  rw [hR]
  have HR := Lib.hid hR
  have HC := Lib.hid hcalls
  have HO := Lib.hid (And.intro ho hqo)
  have hu : ∀ o, (w.alloc o).heap.size = w.heap.size + 1 := fun o => by simp
  have hL4 : (L.length : Int) ≤ 4 := by have := ho.len; omega
  clear hR0 hR hcalls hqo ho h hk hv
  go_enter Tryz.func11, Tryz.ntmps11
  go_upto_region 2 with (first | (go_at_call 28; refine HC.out.copy.mono ?_; rintro _ w1 ⟨v1, rfl, ⟨m, hm, hown⟩, hb1⟩; rw [hu] at hown hb1; obtain ⟨oa, oc, rfl, -⟩ := (Sl.of_owns hown.own).shape))
  have hx1 := (hb1.block w.heap.size (by omega)).trans (heap_alloc_new w (.cells #[.int .i64 x.off, .string (bs x.key), .string (bs x.val), .bool x.gone] 28))
  have x0 := cells_of hx1 0 _ rfl
  have x1 := cells_of hx1 1 _ rfl
  have x2 := cells_of hx1 2 _ rfl
  have x3 := cells_of hx1 3 _ rfl
  have H1 := Lib.hid (And.intro hm (And.intro hown hb1))
  clear hm hown hb1 hx1
  go_upto_region 3 with (first | (go_at_call 29; refine (HC.out.read _).mono ?_; rintro _ w2 ⟨ma, mc, rfl, hmem, hb2⟩))
  obtain ⟨W, hW⟩ : ∃ W, W = w2.alloc (.cells (sdC (sdOf q) ma mc) 68) := ⟨_, rfl⟩
  have hra : RaW w W oa oc m (sdOf q) ma mc w2.heap.size := by rw [hW]; exact raW (x := x) H1.out.2.1 H1.out.2.2 hmem hb2
  rw [← hW]
  generalize w2.heap.size = sb at *
  obtain ⟨b0, b1, b2, b3, b4, b5, b6⟩ := hra.cells
  have hmL := H1.out.1
  have hlen : m.length = L.length := by rw [← hmL]; simp
  have hfk : FksRd W (.slice oa m.length oc) L := by rw [← hmL]; exact hra.own.rd
  have hat := R11at_any hfk HO.out.1.up q.group
  dsimp only [sdOf] at b0 b1 b2 b3 b4 b5 b6
  have HRA := Lib.hid hra
  have HAT := Lib.hid hat
  have HM := Lib.hid (And.intro hmL hlen)
  have m1 : ¬ sb = w.heap.size := by have := hra.low; omega
  have m2 : ¬ w.heap.size = sb := by have := hra.low; omega
  clear hW hra hat hmL hlen hfk hmem hb2 x0 x1 x2 x3 H1 HC hu
  go_upto_region 4 with (first | (go_at_call 30; with_reducible refine HAT.out.mono ?_; rintro _ w4 ⟨rfl, rfl⟩))
  clear HAT
  have hsame : ∀ n, R = L → RApplyTo w R (.returned (.slice oa m.length oc)) (w4.drewN n) := fun n hR => ⟨_, rfl, by rw [hR, ← HM.out.1]; exact (HRA.out.drewN n).own.rd, below_drewN HRA.out.bel n⟩
  have HS := Lib.hid hsame
  have hsame2 : ∀ n n', R = L → RApplyTo w R (.returned (.slice oa m.length oc)) ((w4.drewN n).drewN n') := fun n n' hR => ⟨_, rfl, by rw [hR, ← HM.out.1]; exact ((HRA.out.drewN n).drewN n').own.rd, below_drewN (below_drewN HRA.out.bel n) n'⟩
  have HS2 := Lib.hid hsame2
  clear hsame hsame2
  by_cases hkt : q.kind = 116
  · have hkd : kindN q.kind = 1 := by rw [hkt]; rfl
    rw [hkd] at b0
    cases hh : hasFk L q.group with
    | true =>
      obtain ⟨hk, hkn⟩ := hasFk_at HO.out.1.up hh
      obtain ⟨k, hk0⟩ : ∃ k, fkAt L q.group = k := ⟨_, rfl⟩
      have hat : atP L q.group = (k : Int) := by rw [atP, if_pos hh, hk0]
      have hkL : k < L.length := by rw [← hk0]; exact hk
      have hkm : k < m.length := by rw [HM.out.2]; exact hkL
      have hmk : m[k].2.2 = L[k] := by simp only [← HM.out.1, List.getElem_map]
      obtain ⟨g, mv, mvc, pv, pvc, rfl, hgl, hgw, hgs, e1, e2, d0, d1, d2, d3, d4, dfz⟩ := HRA.out.word hkm
      have hgs' : ¬ sb = g := fun e => hgs e.symm
      have i1 : (k : Int) < (m.length : Int) := by omega
      have i2 : (0 : Int) ≤ (k : Int) := by omega
      have i3 : ¬ (k : Int) < 0 := by omega
      rw [hat]
      have df1 := dfz (k * 5 + 1)
      have df2 := dfz (k * 5 + 2)
      have df3 := dfz (k * 5 + 3)
      by_cases c2 : IntKind.i64.wrap (q.gen - 1) = m[k].2.2.gen
      · have c2' : wrap64 (q.gen - 1) = m[k].2.2.gen := by rw [← IntWalk.i64_left]; exact c2
        have hres : R = L.set k ⟨m[k].2.2.name, q.gen, q.parts, q.members, m[k].2.2.points⟩ := by rw [← HR.out, hmk]; exact applyW_turn hkL hh hk0 hkt (by rw [← hmk]; exact c2)
        have HRES := Lib.hid hres
        have HI := Lib.hid (And.intro hkm hkL)
        clear hres hat hkd hkt hh hk hkn hk0 hmk
        have hown : ∀ n, OwnF (((((w4.drewN n).setCell ⟨g, k * 5 + 1, none⟩ (.int .i64 q.gen)).setCell ⟨g, k * 5 + 2, none⟩ (.int .i64 q.parts)).setCell ⟨g, k * 5 + 3, none⟩ (.slice ma q.members.length mc))) (w.heap.size + 1) (.slice (some ⟨g, 0, none⟩) m.length oc) (m.set k (.slice ma q.members.length mc, m[k].2.1, ⟨m[k].2.2.name, q.gen, q.parts, q.members, m[k].2.2.points⟩)) :=
          fun n => (HRA.out.drewN n).own.turn rfl k hkm q.gen q.parts (.slice ma q.members.length mc) q.members (HRA.out.drewN n).mem
        have HOWN := Lib.hid hown
        clear hown
        have hmap : (m.set k (.slice ma q.members.length mc, m[k].2.1, (⟨m[k].2.2.name, q.gen, q.parts, q.members, m[k].2.2.points⟩ : Fk))).map (·.2.2) = R := by
          rw [HRES.out, List.map_set, HM.out.1]
        have HMAP := Lib.hid hmap
        clear hmap
        generalize m[k].2.2 = y at *
        go_quiet (fail)
        generalize nq = n1
        go_upto_region 22 with fail
        go_quiet (fail)
        go_wp2
        go_ret
        refine ⟨_, rfl, ?_, ?_⟩
        · have h1 := (HOWN.out n1).rd
          rw [HMAP.out] at h1
          exact h1.below (below_drewN (Below.refl _ _) _)
        · have hu := ((upd_set1 (w4.drewN n1) g (k * 5 + 1) (.int .i64 q.gen)).trans (upd_set1 _ g (k * 5 + 2) (.int .i64 q.parts))).trans (upd_set1 _ g (k * 5 + 3) (.slice ma q.members.length mc))
          exact below_drewN ((HRA.out.drewN n1).bel.trans (hu.toBelow (HRA.out.drewN n1).bel.size (fun b e => by omega))) _
      · have c2' : ¬ wrap64 (q.gen - 1) = m[k].2.2.gen := by rw [← IntWalk.i64_left]; exact c2
        have c2b : (IntKind.i64.wrap (q.gen - 1) == m[k].2.2.gen) = false := beq_eq_false_iff_ne.2 c2
        have c2d : (wrap64 (q.gen - 1) == m[k].2.2.gen) = false := beq_eq_false_iff_ne.2 c2'
        have hres : R = L := by rw [← HR.out]; exact applyW_noturn hkL hh hk0 hkt (by rw [← hmk]; exact c2)
        have HRES := Lib.hid hres
        clear hres hat hkd hkt hh hk hkn hk0 hmk
        generalize m[k].2.2 = y at *
        go_quiet (fail)
        go_upto_region 22 with fail
        go_quiet (fail)
        go_wp2
        go_ret
        first | exact HS.out _ HRES.out | exact HS2.out _ _ HRES.out
    | false =>
      have hat : atP L q.group = -1 := by rw [atP, if_neg (by rw [hh]; simp)]
      rw [hat]
      have i2 : ¬ (0 : Int) ≤ -1 := by decide
      have i3 : (-1 : Int) < 0 := by decide
      by_cases hg1 : q.gen = 1
      · rw [hg1] at b2
        by_cases hl4 : L.length < 4
        · have i4 : (m.length : Int) < 4 := by rw [HM.out.2]; omega
          have hres : R = L.take (fkAt L q.group) ++ ⟨q.group, 1, q.parts, q.members, []⟩ :: L.drop (fkAt L q.group) := by rw [← HR.out]; exact applyW_new hh hkt hg1 hl4
          obtain ⟨p, hp⟩ : ∃ p, fkAt L q.group = p := ⟨_, rfl⟩
          rw [hp] at hres
          have hpL : p ≤ L.length := by rw [← hp]; exact posK_le Fk.name L q.group
          obtain ⟨hs1, hs2⟩ := up_split Fk.name (fun _ _ _ => txt_trans) HO.out.1.up q.group
          have hw1 : ∀ t (ht : t < L.length), t < p → ¬ q.group < L[t].name := fun t ht h1 h2 => txt_irrefl _ (txt_trans h2 (hs1 t ht (by rw [show posK Fk.name L q.group = p from hp]; exact h1)))
          have hw2 : ∀ (ht : p < L.length), q.group < L[p].name := by
            intro ht
            have h3 := hs2 p ht (by rw [show posK Fk.name L q.group = p from hp]; exact Nat.le_refl _)
            refine Classical.byContradiction fun h4 => ?_
            have h5 : hasFk L q.group = true := by simp only [hasFk, hasK, List.any_eq_true, decide_eq_true_eq]; exact ⟨L[p], List.getElem_mem ht, txt_tri h3 h4⟩
            rw [hh] at h5
            cases h5
          have HWW := Lib.hid (And.intro hw1 (And.intro hw2 hpL))
          have HRES := Lib.hid hres
          obtain ⟨i3', ki, kz0, kz1, kz2⟩ := info_parts info_Flock
          clear hres hat hkd hkt hh hg1 hp hs1 hs2 hw1 hw2
          go_quiet (fail)
          generalize nq = n1
          go_upto_region 9 with fail
          obtain ⟨wn, hwn⟩ : ∃ wn, wn = (w4.drewN n1).alloc (.cells #[.string (bs q.group), .int .i64 1, .int .i64 q.parts, .slice ma q.members.length mc, .slice none 0 0] 44) := ⟨_, rfl⟩
          have hbn : Below w4.heap.size w4 wn := by rw [hwn]; exact (below_drewN (Below.refl _ w4) n1).trans (show Below w4.heap.size (w4.drewN n1) _ from below_alloc (w4.drewN n1) _)
          obtain ⟨fb, hfb⟩ : ∃ fb, w4.heap.size = fb := ⟨_, rfl⟩
          have hfx : wn.heap[fb]? = some (.cells #[.string (bs q.group), .int .i64 1, .int .i64 q.parts, .slice ma q.members.length mc, .slice none 0 0] 44 (0, 0)) := by rw [hwn, ← hfb]; exact heap_alloc_new (w4.drewN n1) _
          have hra := HRA.out.below hbn
          have hns : wn.heap.size = fb + 1 := by rw [hwn, ← hfb]; rw [World.size_alloc]; rfl
          have hfv : FvRd wn (.slice ma q.members.length mc, .slice none 0 0, ⟨q.group, 1, q.parts, q.members, []⟩) := ⟨Strs.of_owns hra.mem, PtsRd.nil _⟩
          have hx0 : ∀ W, Below wn.heap.size wn W → W.cell? ⟨fb, 0, none⟩ = some (.string (bs q.group)) ∧ W.cell? ⟨fb, 1, none⟩ = some (.int .i64 1) ∧ W.cell? ⟨fb, 2, none⟩ = some (.int .i64 q.parts) ∧ W.cell? ⟨fb, 3, none⟩ = some (.slice ma q.members.length mc) ∧ W.cell? ⟨fb, 4, none⟩ = some (.slice none 0 0) ∧ W.cell? ⟨sb, 1, none⟩ = some (.string (bs q.group)) := by
            intro W hb
            have h1 := (hb.block fb (by omega)).trans hfx
            exact ⟨cells_of h1 0 _ rfl, cells_of h1 1 _ rfl, cells_of h1 2 _ rfl, cells_of h1 3 _ rfl, cells_of h1 4 _ rfl, (hra.below hb).cells.2.1⟩
          have hstart : NxW wn (wn.alloc (.cells #[] 44)) (.slice (some ⟨wn.heap.size, 0, none⟩) 0 0) [] :=
            ⟨World.ownsRow_made (e := 44) (size := 5) (base := wn.heap.size) wn #[] 0 (Nat.le_refl _) (Nat.zero_le _) rfl, by simp, below_alloc _ _⟩
          have HX0 := Lib.hid hx0
          have HST := Lib.hid hstart
          have HN := Lib.hid (And.intro hra (And.intro hfv (And.intro hbn hwn)))
          clear hbn hfx hra hfv hx0 hstart hwn
          go_upto_region 10 with fail
          rw [← HN.out.2.2.2]
          try rw [hfb]
          go_wp2
          try rw [hfb]
          try rw [hns] at HST
          go_loopg [9, 10, 11] L.length (fun gk nv dn i wr => ∃ (k : Nat) (na : Option Addr) (nc : Nat) (m' : List Fv), k ≤ L.length ∧ gk = L.length - k ∧ i = .int .i64 k ∧ dn = .bool (decide (p < k)) ∧ nv = .slice na m'.length nc ∧ m'.map (·.2.2) = insK L ⟨q.group, 1, q.parts, q.members, []⟩ p k ∧ NxW wn wr nv m')
          case atStart => exact ⟨0, _, 0, [], Nat.zero_le _, rfl, rfl, rfl, rfl, (insK_zero _ _ _).symm, HST.out⟩
          case round =>
            obtain ⟨k, na, nc, m', hk, rfl, rfl, rfl, rfl, hmp, hnx⟩ := hrel
            have hml5 : m'.length ≤ 5 := by
              have h1 := congrArg List.length hmp
              have h2 := insK_len (f := (⟨q.group, 1, q.parts, q.members, []⟩ : Fk)) hk HWW.out.2.2
              simp only [List.length_map] at h1
              omega
            have hrz := hnx.bel.size
            obtain ⟨a0, a1, a2, a3, a4, a5⟩ := HX0.out wr hnx.bel
            have HMP := Lib.hid hmp
            by_cases hlt : k < L.length
            · have hkm : k < m.length := by rw [HM.out.2]; exact hlt
              have j1 : (k : Int) < (m.length : Int) := by omega
              have j2 : (0 : Int) ≤ (k : Int) := by omega
              have hmk : m[k].2.2 = L[k] := by simp only [← HM.out.1, List.getElem_map]
              obtain ⟨g, mv, mvc, pv, pvc, rfl, hgl, hgw, hgs, e1, e2, d0, d1, d2, d3, d4, -⟩ := (HN.out.1.below hnx.bel).word hkm
              have hyc : ∀ W, Below wn.heap.size wn W → W.cell? ⟨g, k * 5, none⟩ = some (.string (bs m[k].2.2.name)) ∧ W.cell? ⟨g, k * 5 + 1, none⟩ = some (.int .i64 m[k].2.2.gen) ∧ W.cell? ⟨g, k * 5 + 2, none⟩ = some (.int .i64 m[k].2.2.parts) ∧ W.cell? ⟨g, k * 5 + 3, none⟩ = some (.slice mv m[k].2.2.members.length mvc) ∧ W.cell? ⟨g, k * 5 + 4, none⟩ = some (.slice pv m[k].2.2.points.length pvc) := by
                intro W hb
                obtain ⟨g', mv', mvc', pv', pvc', q1, -, -, -, q2, q3, q4, q5, q6, q7, q8, -⟩ := (HN.out.1.below hb).word hkm
                simp only [Option.some.injEq, Addr.mk.injEq, and_true] at q1
                subst q1
                rw [e1] at q2
                rw [e2] at q3
                simp only [Value.slice.injEq, true_and] at q2 q3
                obtain ⟨rfl, rfl⟩ := q2
                obtain ⟨rfl, rfl⟩ := q3
                exact ⟨q4, q5, q6, q7, q8⟩
              have hyv : FvRd wn (.slice mv m[k].2.2.members.length mvc, .slice pv m[k].2.2.points.length pvc, m[k].2.2) := by
                have h1 := (OwnF.fv HN.out.1.own).2 m[k] (List.getElem_mem hkm)
                unfold FvRd at h1 ⊢
                rw [e1, e2] at h1
                exact h1
              have hbl := bl_dec q.group m[k].2.2.name
              have HYC := Lib.hid hyc
              have HYV := Lib.hid hyv
              have HX := Lib.hid hnx
              have HMK := Lib.hid hmk
              have hsk := HWW.out.1 k hlt
              have hsp := HWW.out.2.1
              rw [← hmk] at hsk
              clear hyc hyv hnx hmp e1 e2 hmk
              generalize hyy : m[k].2.2 = y at *
              by_cases hkp : k < p
              · have hnl : ¬ q.group < y.name := hsk hkp
                rw [decide_eq_false hnl] at hbl
                have hdn : decide (p < k) = false := decide_eq_false (by omega)
                have hdn1 : decide (p < k + 1) = false := decide_eq_false (by omega)
                have HD1 := Lib.hid (And.intro hdn1 hkp)
                rw [hdn]
                clear hdn hdn1 hnl hsk hsp hkp hyy
                go_wp2
                go_quiet (fail)
                have hb2 : Below wn.heap.size wn (wr.drewN nq) := below_drewN HX.out.bel nq
                have hx2 : NxW wn (wr.drewN nq) (.slice na m'.length nc) m' := ⟨HX.out.own, HX.out.rd, hb2⟩
                clear a0 a1 a2 a3 a4 a5 d0 d1 d2 d3 d4
                generalize wr.drewN nq = wz at *
                obtain ⟨a0, a1, a2, a3, a4, a5⟩ := HX0.out wz hb2
                obtain ⟨d0, d1, d2, d3, d4⟩ := HYC.out wz hb2
                have hwz := hb2.size
                have HX2 := Lib.hid hx2
                clear hx2 hb2
                go_wp2_with (first | (at_builtin; refine wpList_append_lies _ rfl _ _ 25 rfl wn.heap.size 44 i3' _ 5 80 und_Flocks ki kz0 kz1 kz2 rfl (by decide) (.slice na m'.length nc) m'.length (fkCells m') rfl (HX2.out.own.alloc _) ⟨wz.heap.size, 0, none⟩ 1 1 [.string (bs y.name), .int .i64 y.gen, .int .i64 y.parts, .slice mv y.members.length mvc, .slice pv y.points.length pvc] rfl rfl (World.news_of_block (cs := #[.string (bs y.name), .int .i64 y.gen, .int .i64 y.parts, .slice mv y.members.length mvc, .slice pv y.points.length pvc]) (t := 44) (fr := (0, 0)) (heap_alloc_new wz _)) (by simp [Value.oneCell']) (by decide) ?_ ?_ ?_ _ rfl ?_; (unfold maxLen; omega); (omega); (first | (simp only [World.size_alloc]; omega) | (rw [World.size_alloc]; omega)); intro g9 cap9 w9 hown9 hgrow9 hat9 hlt9; have hn9 := NxW.snoc HX2.out ((upd_alloc (fun b => some b = ((.slice na m'.length nc) : Value).ownBlock) wz (.cells #[.string (bs y.name), .int .i64 y.gen, .int .i64 y.parts, .slice mv y.members.length mvc, .slice pv y.points.length pvc] 44)).trans (upd_grown hgrow9)) (x := (.slice mv y.members.length mvc, .slice pv y.points.length pvc, y)) hown9 HYV.out; have hz9 := hn9.bel.size; skip; have HN9 := Lib.hid hn9; clear hown9 hgrow9 hat9 hlt9 hn9))
                go_roundg (L.length - (k + 1))
                case measure => omega
                case rel => exact ⟨k + 1, some ⟨g9, 0, none⟩, cap9, m' ++ [(.slice mv y.members.length mvc, .slice pv y.points.length pvc, y)], by omega, rfl, by go_num, by rw [HD1.out.1], by simp, by rw [List.map_append, HMP.out, insK_lt hlt HD1.out.2, ← HMK.out]; rfl, (by have h := HN9.out; simpa using h)⟩
              · by_cases hke : k = p
                · have hnl : q.group < y.name := by
                    have h1 := hsp (by omega)
                    subst hke
                    rw [← HMK.out] at h1
                    exact h1
                  rw [decide_eq_true hnl] at hbl
                  have hdn : decide (p < k) = false := decide_eq_false (by omega)
                  have hdn1 : decide (p < k + 1) = true := decide_eq_true (by omega)
                  have HD1 := Lib.hid (And.intro hdn1 hke)
                  rw [hdn]
                  clear hdn hdn1 hnl hsk hsp hkp hyy hke
                  go_wp2
                  go_quiet (fail)
                  have hb2 : Below wn.heap.size wn (wr.drewN nq) := below_drewN HX.out.bel nq
                  have hx2 : NxW wn (wr.drewN nq) (.slice na m'.length nc) m' := ⟨HX.out.own, HX.out.rd, hb2⟩
                  clear a0 a1 a2 a3 a4 a5 d0 d1 d2 d3 d4
                  generalize wr.drewN nq = wz at *
                  obtain ⟨a0, a1, a2, a3, a4, a5⟩ := HX0.out wz hb2
                  obtain ⟨d0, d1, d2, d3, d4⟩ := HYC.out wz hb2
                  have hwz := hb2.size
                  have HX2 := Lib.hid hx2
                  clear hx2 hb2
                  go_wp2_with (first | (at_builtin; refine wpList_append_lies _ rfl _ _ 25 rfl wn.heap.size 44 i3' _ 5 80 und_Flocks ki kz0 kz1 kz2 rfl (by decide) (.slice na m'.length nc) m'.length (fkCells m') rfl (HX2.out.own.alloc _) ⟨wz.heap.size, 0, none⟩ 1 1 [.string (bs q.group), .int .i64 1, .int .i64 q.parts, .slice ma q.members.length mc, .slice none 0 0] rfl rfl (World.news_of_block (cs := #[.string (bs q.group), .int .i64 1, .int .i64 q.parts, .slice ma q.members.length mc, .slice none 0 0]) (t := 44) (fr := (0, 0)) (heap_alloc_new wz _)) (by simp [Value.oneCell']) (by decide) ?_ ?_ ?_ _ rfl ?_; (unfold maxLen; omega); (omega); (first | (simp only [World.size_alloc]; omega) | (rw [World.size_alloc]; omega)); intro g8 cap8 w8 hown8 hgrow8 hat8 hlt8; have hn8 := NxW.snoc HX2.out ((upd_alloc (fun b => some b = ((.slice na m'.length nc) : Value).ownBlock) wz (.cells #[.string (bs q.group), .int .i64 1, .int .i64 q.parts, .slice ma q.members.length mc, .slice none 0 0] 44)).trans (upd_grown hgrow8)) (x := (.slice ma q.members.length mc, .slice none 0 0, ⟨q.group, 1, q.parts, q.members, []⟩)) hown8 HN.out.2.1; have hz8 := hn8.bel.size; have hown8b := hn8.own; obtain ⟨y80, y81, y82, y83, y84, y85⟩ := HX0.out w8 hn8.bel; obtain ⟨v80, v81, v82, v83, v84⟩ := HYC.out w8 hn8.bel; have HOW8 := Lib.hid (show w8.ownsRow wn.heap.size 44 5 (.slice (some ⟨g8, 0, none⟩) (m'.length + 1) cap8) (m'.length + 1) (fkCells (m' ++ [(.slice ma q.members.length mc, .slice none 0 0, ⟨q.group, 1, q.parts, q.members, []⟩)])) from (by have h := hn8.own; simpa using h)); clear hown8b; have HN8 := Lib.hid hn8; clear hown8 hgrow8 hat8 hlt8 hn8) | (at_builtin; refine wpList_append_lies _ rfl _ _ 25 rfl wn.heap.size 44 i3' _ 5 80 und_Flocks ki kz0 kz1 kz2 rfl (by decide) (.slice (some ⟨g8, 0, none⟩) (m'.length + 1) cap8) (m'.length + 1) (fkCells (m' ++ [(.slice ma q.members.length mc, .slice none 0 0, ⟨q.group, 1, q.parts, q.members, []⟩)])) rfl (HOW8.out.alloc _) ⟨w8.heap.size, 0, none⟩ 1 1 [.string (bs y.name), .int .i64 y.gen, .int .i64 y.parts, .slice mv y.members.length mvc, .slice pv y.points.length pvc] rfl rfl (World.news_of_block (cs := #[.string (bs y.name), .int .i64 y.gen, .int .i64 y.parts, .slice mv y.members.length mvc, .slice pv y.points.length pvc]) (t := 44) (fr := (0, 0)) (heap_alloc_new w8 _)) (by simp [Value.oneCell']) (by decide) ?_ ?_ ?_ _ rfl ?_; (unfold maxLen; omega); (omega); (first | (simp only [World.size_alloc]; omega) | (rw [World.size_alloc]; omega)); intro g9 cap9 w9 hown9 hgrow9 hat9 hlt9; have hn9 := NxW.snoc HN8.out ((upd_alloc (fun b => some b = ((.slice (some ⟨g8, 0, none⟩) (m'.length + 1) cap8) : Value).ownBlock) w8 (.cells #[.string (bs y.name), .int .i64 y.gen, .int .i64 y.parts, .slice mv y.members.length mvc, .slice pv y.points.length pvc] 44)).trans (upd_grown hgrow9)) (x := (.slice mv y.members.length mvc, .slice pv y.points.length pvc, y)) (by rw [List.length_append]; exact hown9) HYV.out; have hz9 := hn9.bel.size; skip; have HN9 := Lib.hid hn9; clear hown9 hgrow9 hat9 hlt9 hn9))
                  go_roundg (L.length - (k + 1))
                  case measure => omega
                  case rel => exact ⟨k + 1, some ⟨g9, 0, none⟩, cap9, m' ++ [(.slice ma q.members.length mc, .slice none 0 0, ⟨q.group, 1, q.parts, q.members, []⟩)] ++ [(.slice mv y.members.length mvc, .slice pv y.points.length pvc, y)], by omega, rfl, by go_num, by rw [HD1.out.1], by simp, by rw [List.map_append, List.map_append, HMP.out, ← HD1.out.2, insK_eq hlt, ← HMK.out]; rfl, (by have h := HN9.out; simpa using h)⟩
                · have hdn : decide (p < k) = true := decide_eq_true (by omega)
                  have hdn1 : decide (p < k + 1) = true := decide_eq_true (by omega)
                  have HD1 := Lib.hid (And.intro hdn1 (show p < k by omega))
                  rw [hdn]
                  clear hdn hdn1 hsk hsp hkp hyy hke hbl
                  go_wp2
                  go_quiet (fail)
                  have hb2 : Below wn.heap.size wn (wr.drewN nq) := below_drewN HX.out.bel nq
                  have hx2 : NxW wn (wr.drewN nq) (.slice na m'.length nc) m' := ⟨HX.out.own, HX.out.rd, hb2⟩
                  clear a0 a1 a2 a3 a4 a5 d0 d1 d2 d3 d4
                  generalize wr.drewN nq = wz at *
                  obtain ⟨a0, a1, a2, a3, a4, a5⟩ := HX0.out wz hb2
                  obtain ⟨d0, d1, d2, d3, d4⟩ := HYC.out wz hb2
                  have hwz := hb2.size
                  have HX2 := Lib.hid hx2
                  clear hx2 hb2
                  go_wp2_with (first | (at_builtin; refine wpList_append_lies _ rfl _ _ 25 rfl wn.heap.size 44 i3' _ 5 80 und_Flocks ki kz0 kz1 kz2 rfl (by decide) (.slice na m'.length nc) m'.length (fkCells m') rfl (HX2.out.own.alloc _) ⟨wz.heap.size, 0, none⟩ 1 1 [.string (bs y.name), .int .i64 y.gen, .int .i64 y.parts, .slice mv y.members.length mvc, .slice pv y.points.length pvc] rfl rfl (World.news_of_block (cs := #[.string (bs y.name), .int .i64 y.gen, .int .i64 y.parts, .slice mv y.members.length mvc, .slice pv y.points.length pvc]) (t := 44) (fr := (0, 0)) (heap_alloc_new wz _)) (by simp [Value.oneCell']) (by decide) ?_ ?_ ?_ _ rfl ?_; (unfold maxLen; omega); (omega); (first | (simp only [World.size_alloc]; omega) | (rw [World.size_alloc]; omega)); intro g9 cap9 w9 hown9 hgrow9 hat9 hlt9; have hn9 := NxW.snoc HX2.out ((upd_alloc (fun b => some b = ((.slice na m'.length nc) : Value).ownBlock) wz (.cells #[.string (bs y.name), .int .i64 y.gen, .int .i64 y.parts, .slice mv y.members.length mvc, .slice pv y.points.length pvc] 44)).trans (upd_grown hgrow9)) (x := (.slice mv y.members.length mvc, .slice pv y.points.length pvc, y)) hown9 HYV.out; have hz9 := hn9.bel.size; skip; have HN9 := Lib.hid hn9; clear hown9 hgrow9 hat9 hlt9 hn9))
                  go_roundg (L.length - (k + 1))
                  case measure => omega
                  case rel => exact ⟨k + 1, some ⟨g9, 0, none⟩, cap9, m' ++ [(.slice mv y.members.length mvc, .slice pv y.points.length pvc, y)], by omega, rfl, by go_num, by rw [HD1.out.1], by simp, by rw [List.map_append, HMP.out, insK_gt hlt HD1.out.2, ← HMK.out]; rfl, (by have h := HN9.out; simpa using h)⟩
            · have hkl : k = L.length := by omega
              have j1 : ¬ (k : Int) < (m.length : Int) := by rw [HM.out.2]; omega
              have HX := Lib.hid hnx
              have HKL := Lib.hid hkl
              clear hnx hmp
              by_cases hpl : p < L.length
              · have hdn : decide (p < k) = true := decide_eq_true (by omega)
                rw [hdn]
                have HPL := Lib.hid hpl
                clear hdn hpl hkl
                go_wp2
                go_ret
                refine ⟨_, rfl, ?_, ?_⟩
                · have h1 := HX.out.fin
                  rw [HMP.out, HKL.out, insK_end HPL.out, ← HRES.out] at h1
                  exact h1
                · exact HN.out.1.bel.trans (HX.out.bel.mono HN.out.1.bel.size)
              · have hdn : decide (p < k) = false := decide_eq_false (by have := HWW.out.2.2; omega)
                rw [hdn]
                have HPL := Lib.hid (show p = L.length by have := HWW.out.2.2; omega)
                clear hdn hpl hkl
                go_wp2_with (first | (at_builtin; refine wpList_append_lies _ rfl _ _ 25 rfl wn.heap.size 44 i3' _ 5 80 und_Flocks ki kz0 kz1 kz2 rfl (by decide) (.slice na m'.length nc) m'.length (fkCells m') rfl (HX.out.own.alloc _) ⟨wr.heap.size, 0, none⟩ 1 1 [.string (bs q.group), .int .i64 1, .int .i64 q.parts, .slice ma q.members.length mc, .slice none 0 0] rfl rfl (World.news_of_block (cs := #[.string (bs q.group), .int .i64 1, .int .i64 q.parts, .slice ma q.members.length mc, .slice none 0 0]) (t := 44) (fr := (0, 0)) (heap_alloc_new wr _)) (by simp [Value.oneCell']) (by decide) ?_ ?_ ?_ _ rfl ?_; (unfold maxLen; omega); (omega); (first | (simp only [World.size_alloc]; omega) | (rw [World.size_alloc]; omega)); intro g8 cap8 w8 hown8 hgrow8 hat8 hlt8; have hn8 := NxW.snoc HX.out ((upd_alloc (fun b => some b = ((.slice na m'.length nc) : Value).ownBlock) wr (.cells #[.string (bs q.group), .int .i64 1, .int .i64 q.parts, .slice ma q.members.length mc, .slice none 0 0] 44)).trans (upd_grown hgrow8)) (x := (.slice ma q.members.length mc, .slice none 0 0, ⟨q.group, 1, q.parts, q.members, []⟩)) hown8 HN.out.2.1; have hz8 := hn8.bel.size; skip; have HN8 := Lib.hid hn8; clear hown8 hgrow8 hat8 hlt8 hn8))
                go_ret
                refine ⟨_, rfl, ?_, ?_⟩
                · have h1 := HN8.out.fin
                  rw [List.map_append, HMP.out, HKL.out, HPL.out] at h1
                  have h2 := insK_last (L := L) (f := (⟨q.group, 1, q.parts, q.members, []⟩ : Fk))
                  have h3 := HRES.out
                  rw [HPL.out] at h3
                  rw [h3, ← h2]
                  simpa using h1
                · exact HN.out.1.bel.trans (HN8.out.bel.mono HN.out.1.bel.size)
        · have i4 : ¬ (m.length : Int) < 4 := by rw [HM.out.2]; omega
          have hres : R = L := by rw [← HR.out]; exact applyW_nonew HO.out.2.gen hh hkt (fun h => hl4 h.2)
          have HRES := Lib.hid hres
          clear hres hat hkd hkt hh hg1
          go_quiet (fail)
          go_upto_region 22 with fail
          go_quiet (fail)
          go_wp2
          go_ret
          first | exact HS.out _ HRES.out | exact HS2.out _ _ HRES.out
      · have g1b : (q.gen == 1) = false := beq_eq_false_iff_ne.2 hg1
        have hres : R = L := by rw [← HR.out]; exact applyW_nonew HO.out.2.gen hh hkt (fun h => hg1 h.1)
        have HRES := Lib.hid hres
        clear hres hat hkd hkt hh
        go_quiet (fail)
        go_upto_region 22 with fail
        go_quiet (fail)
        go_wp2
        go_ret
        first | exact HS.out _ HRES.out | exact HS2.out _ _ HRES.out
  · by_cases hkp : q.kind = 99
    · have hkd : kindN q.kind = 2 := by rw [hkp]; rfl
      rw [hkd] at b0
      cases hh : hasFk L q.group with
      | true =>
        obtain ⟨hk, hkn⟩ := hasFk_at HO.out.1.up hh
        obtain ⟨k, hk0⟩ : ∃ k, fkAt L q.group = k := ⟨_, rfl⟩
        have hat : atP L q.group = (k : Int) := by rw [atP, if_pos hh, hk0]
        have hkL : k < L.length := by rw [← hk0]; exact hk
        have hkm : k < m.length := by rw [HM.out.2]; exact hkL
        have hmk : m[k].2.2 = L[k] := by simp only [← HM.out.1, List.getElem_map]
        obtain ⟨g, mv, mvc, pv, pvc, rfl, hgl, hgw, hgs, e1, e2, d0, d1, d2, d3, d4, dfz⟩ := HRA.out.word hkm
        have hgs' : ¬ sb = g := fun e => hgs e.symm
        have i1 : (k : Int) < (m.length : Int) := by omega
        have i2 : (0 : Int) ≤ (k : Int) := by omega
        have i3 : ¬ (k : Int) < 0 := by omega
        rw [hat]
        by_cases c2 : q.gen = m[k].2.2.gen
        · have hres : R = L.set k ⟨m[k].2.2.name, m[k].2.2.gen, m[k].2.2.parts, m[k].2.2.members, pointedP m[k].2.2.points (q.part, q.off)⟩ := by rw [← HR.out, hmk]; exact applyW_point hkL hh hk0 hkp (by rw [← hmk]; exact c2)
          obtain ⟨i3', ki, kz0, kz1, kz2⟩ := info_parts info_Point
          have HRES := Lib.hid hres
          have hmem := List.getElem_mem (l := L) hkL
          have hpu := (HO.out.1.each _ hmem).pts
          have hpf := (HO.out.1.each _ hmem).few
          rw [← hmk] at hpu hpf
          have hprd := PtsRd.of_owns (HRA.out.own.pts k hkm hkm)
          rw [e2] at hprd
          clear hres hat hkd hkt hkp hh hk hkn hk0 hmk hmem
          obtain ⟨pts, hpts⟩ : ∃ pts, m[k].2.2.points = pts := ⟨_, rfl⟩
          rw [hpts] at hpu hpf hprd d4 e2 HRES
          have HPT := Lib.hid (And.intro hpu (And.intro hpts e2))
          have hprd := fun n n' => PtsRd.below hprd (below_drewN (below_drewN (Below.refl _ w4) n) n')
          have HPR := Lib.hid hprd
          clear hpu hpts hprd e1 e2 d0 d2 d3
          go_quiet (fail)
          generalize nq = n1
          go_upto_region 22 with fail
          go_quiet (fail)
          generalize nq = n2
          have hra := (HRA.out.drewN n1).drewN n2
          have hprd := HPR.out n1 n2
          clear HRA HS HS2 HPR b0 b1 b2 b3 b4 b5 b6 d1 d4 dfz
          generalize (w4.drewN n1).drewN n2 = wn at *
          obtain ⟨-, -, -, -, -, b5, b6⟩ := hra.cells
          dsimp only [sdOf] at b5 b6
          obtain ⟨g', mv', mvc', pv', pvc', q1, hgl', -, -, -, q3, -, -, -, -, d4, dfz'⟩ := hra.word hkm
          simp only [Option.some.injEq, Addr.mk.injEq, and_true] at q1
          subst q1
          rw [HPT.out.2.1, HPT.out.2.2] at q3
          rw [HPT.out.2.1] at d4
          simp only [Value.slice.injEq, true_and] at q3
          obtain ⟨rfl, rfl⟩ := q3
          obtain ⟨pa', pc', e', -, -, hpc⟩ := hprd.cells
          simp only [Value.slice.injEq, true_and] at e'
          obtain ⟨rfl, rfl⟩ := e'
          obtain ⟨N, hN⟩ : ∃ N, wn.heap.size = N := ⟨_, rfl⟩
          have hsbl : sb < N := by rw [← hN]; exact (Array.getElem?_eq_some_iff.1 hra.box).1
          have hyc : ∀ W, Below N wn W → W.cell? ⟨g, k * 5 + 4, none⟩ = some (.slice pv pts.length pvc) ∧ W.cell? ⟨sb, 5, none⟩ = some (.int .i64 q.part) ∧ W.cell? ⟨sb, 6, none⟩ = some (.int .i64 q.off) ∧ W.frozen? ⟨g, k * 5 + 4, none⟩ = false :=
            fun W hb => ⟨below_some hb d4 (by omega), below_some hb b5 hsbl, below_some hb b6 hsbl, (hb.frozen (p := ⟨g, k * 5 + 4, none⟩) (by show g < N; omega)).trans (dfz' _)⟩
          have hstart : PxW wn (wn.alloc (.cells #[] 58)) N (.slice (some ⟨N, 0, none⟩) 0 0) [] := by
            rw [← hN]
            exact ⟨World.ownsRow_made (e := 58) (size := 2) (base := wn.heap.size) wn #[] 0 (Nat.le_refl _) (Nat.zero_le _) rfl, below_alloc _ _⟩
          have hpc2 : ∀ t (ht : t < pts.length), ∃ b off, pv = some ⟨b, off, none⟩ ∧ ∀ W, Below N wn W → W.cell? ⟨b, off + t * 2, none⟩ = some (.int .i64 pts[t].1) ∧ W.cell? ⟨b, off + t * 2 + 1, none⟩ = some (.int .i64 pts[t].2) := by
            intro t ht
            obtain ⟨b, off, e0, hb, h1, h2⟩ := hpc t ht
            exact ⟨b, off, e0, fun W hW => ⟨below_some hW h1 (by omega), below_some hW h2 (by omega)⟩⟩
          have HYC := Lib.hid hyc
          have HST := Lib.hid hstart
          have HPC := Lib.hid hpc2
          have HRA := Lib.hid hra
          have HNN := Lib.hid hN
          obtain ⟨p, hp⟩ : ∃ p, ptAt pts q.part = p := ⟨_, rfl⟩
          have hpL : p ≤ pts.length := by rw [← hp]; exact posK_le Prod.fst pts q.part
          have HP := Lib.hid hp
          clear hyc hstart hpc hpc2 hra hprd d4 b5 b6 hgl' dfz' hp
          go_upto_region 24 with fail
          clear hN
          go_wp2
          go_loopg [12, 13, 14] pts.length (fun gk nv dn i wr => ∃ (t : Nat) (na : Option Addr) (nc : Nat) (l' : List (Int × Int)), t ≤ pts.length ∧ gk = pts.length - t ∧ i = .int .i64 t ∧ dn = .bool (decide (p < t)) ∧ nv = .slice na l'.length nc ∧ l' = ptK pts (q.part, q.off) t ∧ N ≤ wr.heap.size ∧ PxW wn wr N nv l')
          case atStart => exact ⟨0, _, 0, [], Nat.zero_le _, rfl, rfl, rfl, rfl, (ptK_zero _ _).symm, by have := HNN.out; simp; omega, HST.out⟩
          case round =>
            obtain ⟨t, na, nc, l', ht, rfl, rfl, rfl, rfl, hl', hrz, hpx⟩ := hrel
            have hl5 : l'.length ≤ 5 := by rw [hl']; have := ptK_len (l := pts) (z := (q.part, q.off)) ht; omega
            have HL := Lib.hid hl'
            have HX := Lib.hid hpx
            obtain ⟨c4, c5, c6, c7⟩ := HYC.out wr hpx.bel
            by_cases hlt : t < pts.length
            · obtain ⟨pb, po, rfl, hcc⟩ := HPC.out t hlt
              obtain ⟨z0, z1⟩ := hcc wr hpx.bel
              have j1 : (t : Int) < (pts.length : Int) := by omega
              have j2 : (0 : Int) ≤ (t : Int) := by omega
              have hwh := pt_where HPT.out.1 q.part hlt
              rw [HP.out] at hwh
              have HWH := Lib.hid hwh
              have hrow := fun g0 h0 => (owns_lt hpx.own g0 h0).2
              have hpz : PxW wn (wr.alloc (.cells #[.int .i64 pts[t].1, .int .i64 pts[t].2] 58)) N (.slice na l'.length nc) l' := ⟨hpx.own.alloc _, hpx.bel.trans ((below_alloc wr _).mono hrz)⟩
              have hbx : ∀ W, Upd (fun b => some b = (Value.slice na l'.length nc).ownBlock) (wr.alloc (.cells #[.int .i64 pts[t].1, .int .i64 pts[t].2] 58)) W → W.cell? ⟨wr.heap.size, 0, none⟩ = some (.int .i64 pts[t].1) ∧ W.cell? ⟨wr.heap.size, 1, none⟩ = some (.int .i64 pts[t].2) := by
                intro W hu
                have h1 := (hu.block wr.heap.size (by simp) (fun e => by have := hrow _ e.symm; omega)).trans (heap_alloc_new wr _)
                exact ⟨cells_of h1 0 _ rfl, cells_of h1 1 _ rfl⟩
              have HBX := Lib.hid hbx
              have HX2 := Lib.hid hpz
              have hwzs : (wr.alloc (.cells #[.int .i64 pts[t].1, .int .i64 pts[t].2] 58)).heap.size > wr.heap.size := by simp
              clear hwh hrow hpx hpz hbx hl' hcc
              obtain ⟨u, hu⟩ : ∃ u, pts[t] = u := ⟨_, rfl⟩
              rw [hu] at HBX HX2 hwzs z0 z1
              have HU := Lib.hid hu
              clear hu
              go_upto_region 29 with fail
              obtain ⟨yb, hyb⟩ : ∃ yb, wr.heap.size = yb := ⟨_, rfl⟩
              rw [hyb] at HBX hwzs hrz
              try rw [hyb]
              clear hyb c4 c5 c6 c7 z0 z1
              generalize wr.alloc (.cells #[.int .i64 u.1, .int .i64 u.2] 58) = wz at *
              obtain ⟨c4, c5, c6, c7⟩ := HYC.out wz HX2.out.bel
              obtain ⟨y0, y1⟩ := HBX.out wz (Upd.refl _ _)
              rcases Nat.lt_trichotomy t p with htp | htp | htp
              · have hw := HWH.out.1 htp
                rw [HU.out] at hw
                have f1 : ¬ q.part ≤ u.1 := by omega
                have f2 : ¬ u.1 = q.part := by omega
                have f2b : (u.1 == q.part) = false := beq_eq_false_iff_ne.2 f2
                have hdn : decide (p < t) = false := decide_eq_false (by omega)
                have hdn1 : decide (p < t + 1) = false := decide_eq_false (by omega)
                have HD1 := Lib.hid (And.intro hdn1 htp)
                rw [hdn]
                clear hdn hdn1 htp hw
                go_wp2_with (first | (at_builtin; refine wpList_append_lies _ rfl _ _ 42 rfl N 58 i3' _ 2 16 und_Points ki kz0 kz1 kz2 rfl (by decide) (.slice na l'.length nc) l'.length (ptCells l') rfl (HX2.out.own.alloc _) ⟨wz.heap.size, 0, none⟩ 1 1 [.int .i64 u.1, .int .i64 u.2] rfl rfl (World.news_of_block (cs := #[.int .i64 u.1, .int .i64 u.2]) (t := 58) (fr := (0, 0)) (heap_alloc_new wz _)) (by simp [Value.oneCell']) (by decide) ?_ ?_ ?_ _ rfl ?_; (unfold maxLen; omega); (omega); (first | (simp only [World.size_alloc]; omega) | (rw [World.size_alloc]; omega)); intro g9 cap9 w9 hown9 hgrow9 hat9 hlt9; have hu9 := (upd_alloc (fun b => some b = ((.slice na l'.length nc) : Value).ownBlock) wz (.cells #[.int .i64 u.1, .int .i64 u.2] 58)).trans (upd_grown hgrow9); have hn9 := PxW.snoc HX2.out hu9 u (by omega) hown9; have hz9 := hu9.size; skip; have HN9 := Lib.hid hn9; clear hown9 hgrow9 hat9 hlt9 hn9 hu9))
                go_roundg (pts.length - (t + 1))
                case measure => omega
                case rel => exact ⟨t + 1, some ⟨g9, 0, none⟩, cap9, l' ++ [u], by omega, rfl, by go_num, by rw [HD1.out.1], by simp, by rw [HL.out, ← HU.out]; exact (ptK_lt hlt (by have h1 := HP.out; have h2 := HD1.out.2; simp only; rw [h1]; exact h2)).symm, by omega, by have h := HN9.out; simpa using h⟩
              · have hw := HWH.out.2.1 htp
                rw [HU.out] at hw
                have f1 : q.part ≤ u.1 := hw.1
                have hdn : decide (p < t) = false := decide_eq_false (by omega)
                have hdn1 : decide (p < t + 1) = true := decide_eq_true (by omega)
                have HD1 := Lib.hid (And.intro hdn1 htp)
                rw [hdn]
                cases hhp : hasPt pts q.part with
                | true =>
                  have f2 : u.1 = q.part := hw.2.2 hhp
                  have f2b : (u.1 == q.part) = true := beq_iff_eq.2 f2
                  have HH := Lib.hid hhp
                  have F2 := Lib.hid f2
                  obtain ⟨u1, u2⟩ := u
                  simp only at f2 f1
                  subst f2
                  clear hdn hdn1 htp hw hhp
                  go_wp2_with (first | (at_builtin; refine wpList_append_lies _ rfl _ _ 42 rfl N 58 i3' _ 2 16 und_Points ki kz0 kz1 kz2 rfl (by decide) (.slice na l'.length nc) l'.length (ptCells l') rfl (HX2.out.own.alloc _) ⟨wz.heap.size, 0, none⟩ 1 1 [.int .i64 q.part, .int .i64 q.off] rfl rfl (World.news_of_block (cs := #[.int .i64 q.part, .int .i64 q.off]) (t := 58) (fr := (0, 0)) (heap_alloc_new wz _)) (by simp [Value.oneCell']) (by decide) ?_ ?_ ?_ _ rfl ?_; (unfold maxLen; omega); (omega); (first | (simp only [World.size_alloc]; omega) | (rw [World.size_alloc]; omega)); intro g8 cap8 w8 hown8 hgrow8 hat8 hlt8; have hu8 := (upd_alloc (fun b => some b = ((.slice na l'.length nc) : Value).ownBlock) wz (.cells #[.int .i64 q.part, .int .i64 q.off] 58)).trans (upd_grown hgrow8); have hn8 := PxW.snoc HX2.out hu8 (q.part, q.off) (by omega) hown8; have hz8 := hu8.size; obtain ⟨c84, c85, c86, c87⟩ := HYC.out w8 hn8.bel; obtain ⟨y80, y81⟩ := HBX.out w8 hu8; have HOW8 := Lib.hid (show w8.ownsRow N 58 2 (.slice (some ⟨g8, 0, none⟩) (l'.length + 1) cap8) (l'.length + 1) (ptCells (l' ++ [(q.part, q.off)])) from (by have h := hn8.own; simpa using h)); have HN8 := Lib.hid hn8; clear hown8 hgrow8 hat8 hlt8 hn8 hu8))
                  go_roundg (pts.length - (t + 1))
                  case measure => omega
                  case rel => exact ⟨t + 1, some ⟨g8, 0, none⟩, cap8, l' ++ [(q.part, q.off)], by omega, rfl, by go_num, by rw [HD1.out.1], by simp, by rw [HL.out]; exact (ptK_eq_yes (z := (q.part, q.off)) hlt (by have h1 := HP.out; have h2 := HD1.out.2; simp only; rw [h1]; exact h2) HH.out).symm, by omega, by have h := HN8.out; simpa using h⟩
                | false =>
                  have f2 : ¬ u.1 = q.part := fun e => by have := hw.2.1 e; rw [hhp] at this; cases this
                  have f2b : (u.1 == q.part) = false := beq_eq_false_iff_ne.2 f2
                  have HH := Lib.hid hhp
                  clear hdn hdn1 htp hw hhp
                  go_wp2_with (first | (at_builtin; refine wpList_append_lies _ rfl _ _ 42 rfl N 58 i3' _ 2 16 und_Points ki kz0 kz1 kz2 rfl (by decide) (.slice na l'.length nc) l'.length (ptCells l') rfl (HX2.out.own.alloc _) ⟨wz.heap.size, 0, none⟩ 1 1 [.int .i64 q.part, .int .i64 q.off] rfl rfl (World.news_of_block (cs := #[.int .i64 q.part, .int .i64 q.off]) (t := 58) (fr := (0, 0)) (heap_alloc_new wz _)) (by simp [Value.oneCell']) (by decide) ?_ ?_ ?_ _ rfl ?_; (unfold maxLen; omega); (omega); (first | (simp only [World.size_alloc]; omega) | (rw [World.size_alloc]; omega)); intro g8 cap8 w8 hown8 hgrow8 hat8 hlt8; have hu8 := (upd_alloc (fun b => some b = ((.slice na l'.length nc) : Value).ownBlock) wz (.cells #[.int .i64 q.part, .int .i64 q.off] 58)).trans (upd_grown hgrow8); have hn8 := PxW.snoc HX2.out hu8 (q.part, q.off) (by omega) hown8; have hz8 := hu8.size; obtain ⟨c84, c85, c86, c87⟩ := HYC.out w8 hn8.bel; obtain ⟨y80, y81⟩ := HBX.out w8 hu8; have HOW8 := Lib.hid (show w8.ownsRow N 58 2 (.slice (some ⟨g8, 0, none⟩) (l'.length + 1) cap8) (l'.length + 1) (ptCells (l' ++ [(q.part, q.off)])) from (by have h := hn8.own; simpa using h)); have HN8 := Lib.hid hn8; clear hown8 hgrow8 hat8 hlt8 hn8 hu8) | (at_builtin; refine wpList_append_lies _ rfl _ _ 42 rfl N 58 i3' _ 2 16 und_Points ki kz0 kz1 kz2 rfl (by decide) (.slice (some ⟨g8, 0, none⟩) (l'.length + 1) cap8) (l'.length + 1) (ptCells (l' ++ [(q.part, q.off)])) rfl (HOW8.out.alloc _) ⟨w8.heap.size, 0, none⟩ 1 1 [.int .i64 u.1, .int .i64 u.2] rfl rfl (World.news_of_block (cs := #[.int .i64 u.1, .int .i64 u.2]) (t := 58) (fr := (0, 0)) (heap_alloc_new w8 _)) (by simp [Value.oneCell']) (by decide) ?_ ?_ ?_ _ rfl ?_; (unfold maxLen; omega); (omega); (first | (simp only [World.size_alloc]; omega) | (rw [World.size_alloc]; omega)); intro g9 cap9 w9 hown9 hgrow9 hat9 hlt9; have hu9 := (upd_alloc (fun b => some b = ((.slice (some ⟨g8, 0, none⟩) (l'.length + 1) cap8) : Value).ownBlock) w8 (.cells #[.int .i64 u.1, .int .i64 u.2] 58)).trans (upd_grown hgrow9); have hn9 := PxW.snoc HN8.out hu9 u (by omega) (by rw [List.length_append]; exact hown9); have hz9 := hu9.size; skip; have HN9 := Lib.hid hn9; clear hown9 hgrow9 hat9 hlt9 hn9 hu9))
                  go_roundg (pts.length - (t + 1))
                  case measure => omega
                  case rel => exact ⟨t + 1, some ⟨g9, 0, none⟩, cap9, l' ++ [(q.part, q.off)] ++ [u], by omega, rfl, by go_num, by rw [HD1.out.1], by simp, by rw [HL.out, ← HU.out]; exact (ptK_eq_no (z := (q.part, q.off)) hlt (by have h1 := HP.out; have h2 := HD1.out.2; simp only; rw [h1]; exact h2) HH.out).symm, by omega, by have h := HN9.out; simpa using h⟩
              · have hw := HWH.out.2.2 htp
                rw [HU.out] at hw
                have f2 : ¬ u.1 = q.part := by omega
                have f2b : (u.1 == q.part) = false := beq_eq_false_iff_ne.2 f2
                have hdn : decide (p < t) = true := decide_eq_true (by omega)
                have hdn1 : decide (p < t + 1) = true := decide_eq_true (by omega)
                have HD1 := Lib.hid (And.intro hdn1 htp)
                rw [hdn]
                clear hdn hdn1 htp hw
                go_wp2_with (first | (at_builtin; refine wpList_append_lies _ rfl _ _ 42 rfl N 58 i3' _ 2 16 und_Points ki kz0 kz1 kz2 rfl (by decide) (.slice na l'.length nc) l'.length (ptCells l') rfl (HX2.out.own.alloc _) ⟨wz.heap.size, 0, none⟩ 1 1 [.int .i64 u.1, .int .i64 u.2] rfl rfl (World.news_of_block (cs := #[.int .i64 u.1, .int .i64 u.2]) (t := 58) (fr := (0, 0)) (heap_alloc_new wz _)) (by simp [Value.oneCell']) (by decide) ?_ ?_ ?_ _ rfl ?_; (unfold maxLen; omega); (omega); (first | (simp only [World.size_alloc]; omega) | (rw [World.size_alloc]; omega)); intro g9 cap9 w9 hown9 hgrow9 hat9 hlt9; have hu9 := (upd_alloc (fun b => some b = ((.slice na l'.length nc) : Value).ownBlock) wz (.cells #[.int .i64 u.1, .int .i64 u.2] 58)).trans (upd_grown hgrow9); have hn9 := PxW.snoc HX2.out hu9 u (by omega) hown9; have hz9 := hu9.size; skip; have HN9 := Lib.hid hn9; clear hown9 hgrow9 hat9 hlt9 hn9 hu9))
                go_roundg (pts.length - (t + 1))
                case measure => omega
                case rel => exact ⟨t + 1, some ⟨g9, 0, none⟩, cap9, l' ++ [u], by omega, rfl, by go_num, by rw [HD1.out.1], by simp, by rw [HL.out, ← HU.out]; exact (ptK_gt hlt (by have h1 := HP.out; have h2 := HD1.out.2; simp only; rw [h1]; exact h2)).symm, by omega, by have h := HN9.out; simpa using h⟩
            · have htl : t = pts.length := by omega
              have j1 : ¬ (t : Int) < (pts.length : Int) := by omega
              have hfin : ∀ (W : World) (va : Option Addr) (vc : Nat) (P : List (Int × Int)), PxW wn W N (.slice va P.length vc) P → P = pointedP pts (q.part, q.off) → RApplyTo w R (.returned (.slice (some ⟨g, 0, none⟩) m.length oc)) (W.setCell ⟨g, k * 5 + 4, none⟩ (.slice va P.length vc)) := by
                intro W va vc P hpw hP
                have hnl := HNN.out
                have hz := HRA.out.bel.size
                have hgz := (owns_lt HRA.out.own.own g rfl)
                have h1 := HRA.out.own.point rfl k hkm (by omega) (Upd.of_below (by rw [hnl]; exact hpw.bel)) (.slice va P.length vc) P (owns_mono hpw.own (by have := (Array.getElem?_eq_some_iff.1 HRA.out.box).1; have := HRA.out.low; omega)) (fun b hb => .inr (by have := (owns_lt hpw.own b hb).1; omega))
                refine ⟨_, rfl, ?_, ?_⟩
                · have h2 := h1.2.rd
                  rw [List.map_set, HM.out.1] at h2
                  rw [HRES.out, ← hP]
                  exact h2
                · exact (HRA.out.bel.trans (hpw.bel.mono (by omega))).trans ((upd_set1 W g (k * 5 + 4) (.slice va P.length vc)).toBelow (by have := hpw.bel.size; omega) (fun b e => by omega))
              have HF := Lib.hid hfin
              have HTL := Lib.hid htl
              clear hfin hpx hl'
              by_cases hpl : p < pts.length
              · have hdn : decide (p < t) = true := decide_eq_true (by omega)
                rw [hdn]
                have HPL := Lib.hid hpl
                clear hdn hpl htl
                go_wp2
                go_ret
                exact HF.out _ _ _ _ HX.out (by rw [HL.out, HTL.out]; exact ptK_end (by have h1 := HP.out; have h2 := HPL.out; simp only; rw [h1]; exact h2))
              · have hdn : decide (p < t) = false := decide_eq_false (by omega)
                rw [hdn]
                have HPL := Lib.hid (show p = pts.length by omega)
                clear hdn hpl htl
                go_wp2_with (first | (at_builtin; refine wpList_append_lies _ rfl _ _ 42 rfl N 58 i3' _ 2 16 und_Points ki kz0 kz1 kz2 rfl (by decide) (.slice na l'.length nc) l'.length (ptCells l') rfl (HX.out.own.alloc _) ⟨wr.heap.size, 0, none⟩ 1 1 [.int .i64 q.part, .int .i64 q.off] rfl rfl (World.news_of_block (cs := #[.int .i64 q.part, .int .i64 q.off]) (t := 58) (fr := (0, 0)) (heap_alloc_new wr _)) (by simp [Value.oneCell']) (by decide) ?_ ?_ ?_ _ rfl ?_; (unfold maxLen; omega); (omega); (first | (simp only [World.size_alloc]; omega) | (rw [World.size_alloc]; omega)); intro g8 cap8 w8 hown8 hgrow8 hat8 hlt8; have hu8 := (upd_alloc (fun b => some b = ((.slice na l'.length nc) : Value).ownBlock) wr (.cells #[.int .i64 q.part, .int .i64 q.off] 58)).trans (upd_grown hgrow8); have hn8 := PxW.snoc HX.out hu8 (q.part, q.off) (by omega) hown8; have hz8 := hu8.size; obtain ⟨c84, c85, c86, c87⟩ := HYC.out w8 hn8.bel; have HN8 := Lib.hid hn8; clear hown8 hgrow8 hat8 hlt8 hn8 hu8))
                go_ret
                have h9 := HF.out w8 (some ⟨g8, 0, none⟩) cap8 (l' ++ [(q.part, q.off)]) (by have h := HN8.out; simpa using h) (by rw [HL.out, HTL.out]; exact ptK_last HPT.out.1 (by have h1 := HP.out; have h2 := HPL.out; simp only; rw [h1]; exact h2))
                simpa using h9
        · have c2b : (q.gen == m[k].2.2.gen) = false := beq_eq_false_iff_ne.2 c2
          have hres : R = L := by rw [← HR.out]; exact applyW_nopoint hkL hh hk0 hkp (by rw [← hmk]; exact c2)
          have HRES := Lib.hid hres
          clear hres hat hkd hkt hkp hh hk hkn hk0 hmk
          generalize m[k].2.2 = y at *
          go_quiet (fail)
          go_upto_region 22 with fail
          go_quiet (fail)
          go_wp2
          go_ret
          first | exact HS.out _ HRES.out | exact HS2.out _ _ HRES.out
      | false =>
        have hat : atP L q.group = -1 := by rw [atP, if_neg (by rw [hh]; simp)]
        rw [hat]
        have i2 : ¬ (0 : Int) ≤ -1 := by decide
        have i3 : (-1 : Int) < 0 := by decide
        have hres : R = L := by rw [← HR.out]; exact applyW_nogroup hh hkp
        have HRES := Lib.hid hres
        clear hres hat hkd hkt hkp hh
        go_quiet (fail)
        go_upto_region 22 with fail
        go_quiet (fail)
        go_wp2
        go_ret
        first | exact HS.out _ HRES.out | exact HS2.out _ _ HRES.out
    · obtain ⟨kd, hkd⟩ : ∃ kd, kindN q.kind = kd := ⟨_, rfl⟩
      have k1 : ¬ kd = 1 := by rw [← hkd]; simp only [kindN, if_neg hkt, if_neg hkp]; split <;> decide
      have k2 : ¬ kd = 2 := by rw [← hkd]; simp only [kindN, if_neg hkt, if_neg hkp]; split <;> decide
      have k1b : (kd == 1) = false := beq_eq_false_iff_ne.2 k1
      have k2b : (kd == 2) = false := beq_eq_false_iff_ne.2 k2
      rw [hkd] at b0
      have hres : R = L := by rw [← HR.out]; exact applyW_other hkt hkp
      have HRES := Lib.hid hres
      clear hres hkd hkt hkp
      go_quiet (fail)
      go_upto_region 22 with fail
      go_quiet (fail)
      go_wp2
      go_ret
      first | exact HS.out _ HRES.out | exact HS2.out _ _ HRES.out
end Go.Proofs.YtdchjepahgecgaaGreatDoor
