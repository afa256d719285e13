/- The walk of flock.read. -/
import Derived.Test.YtdchjepahgecgaaGreatDoorMq10
import Derived.Test.YtdchjepahgecgaaGreatDoorMq9
import Derived.Test.YtdchjepahgecgaaGreatDoorMq17
import Derived.Test.YtdchjepahgecgaaGreatDoorMq11
import Derived.Test.YtdchjepahgecgaaGreatDoorMq23
import Derived.Deep.CutBlock
namespace Go.Proofs.YtdchjepahgecgaaGreatDoor
open Go.RowKit

theorem byte_ne_nat {c d : UInt8} (h : ¬ c = d) : ¬ ((c.toNat : Int) = (d.toNat : Int)) := fun e => h (UInt8.toNat_inj.1 (by omega))

/-- A word's box, the reader, the members. -/
structure RdW (w W : World) (q : Wd) (ma : Option Addr) (mc : Nat) (st : RS) : Prop where
  box : W.heap[w.heap.size + 1]? = some (.cells #[.int .u8 (q.kind.toNat : Int), .string (bs q.group), .int .i64 q.gen, .int .i64 q.parts, .slice ma q.members.length mc, .int .i64 q.part, .int .i64 q.off, .int .i64 q.code] 60 (0, 0))
  rdr : RdAt W (w.heap.size + 2) st
  mem : W.ownsRow w.heap.size 9 1 (.slice ma q.members.length mc) q.members.length (strCells q.members)
  bel : Below w.heap.size w W

theorem RdW.memne {w W : World} {q : Wd} {ma : Option Addr} {mc : Nat} {st : RS} (h : RdW w W q ma mc st) : ∀ g, (Value.slice ma q.members.length mc).ownBlock = some g → g ≠ w.heap.size + 1 ∧ g ≠ w.heap.size + 2 := by
  intro g hg
  rcases h.mem.2 with ⟨h0, _⟩ | ⟨g', cap, cur, hv, _, h3, _⟩
  · rw [h0] at hg; cases hg
  · rw [hv] at hg
    simp only [Value.ownBlock, Option.some.injEq] at hg
    subst hg
    refine ⟨fun e => ?_, fun e => ?_⟩
    · rw [e, h.box] at h3
      simp at h3
    · rw [e] at h3
      have h4 := h.rdr
      unfold RdAt at h4
      rw [h4] at h3
      simp at h3

theorem RdW.step {w W W' : World} {q : Wd} {ma : Option Addr} {mc : Nat} {st st' : RS} (h : RdW w W q ma mc st) (hu : Upd (fun k => k = w.heap.size + 2) W W') (hr : RdAt W' (w.heap.size + 2) st') : RdW w W' q ma mc st' where
  box := (hu.block _ (Array.getElem?_eq_some_iff.1 h.box).1 (by omega)).trans h.box
  rdr := hr
  mem := owns_upd h.mem hu (fun g hg e => (h.memne g hg).2 e)
  bel := h.bel.trans (hu.toBelow h.bel.size (fun k e => by omega))

theorem RdW.below {w W W' : World} {q : Wd} {ma : Option Addr} {mc : Nat} {st : RS} (h : RdW w W q ma mc st) (hb : Below W.heap.size W W') : RdW w W' q ma mc st where
  box := (hb.block _ (Array.getElem?_eq_some_iff.1 h.box).1).trans h.box
  rdr := h.rdr.below hb
  mem := owns_upd h.mem (Upd.of_below (F := fun _ => False) hb) (fun _ _ h => h)
  bel := h.bel.trans (hb.mono h.bel.size)

/-- A word of the box is written. -/
theorem RdW.put {w W : World} {q q' : Wd} {ma : Option Addr} {mc : Nat} {st : RS} (h : RdW w W q ma mc st) (j : Nat) (u : Value) (hm : q'.members = q.members)
    (he : (#[.int .u8 (q.kind.toNat : Int), .string (bs q.group), .int .i64 q.gen, .int .i64 q.parts, .slice ma q.members.length mc, .int .i64 q.part, .int .i64 q.off, .int .i64 q.code] : Array Value).setIfInBounds j u = #[.int .u8 (q'.kind.toNat : Int), .string (bs q'.group), .int .i64 q'.gen, .int .i64 q'.parts, .slice ma q'.members.length mc, .int .i64 q'.part, .int .i64 q'.off, .int .i64 q'.code]) :
    RdW w (W.setCell ⟨w.heap.size + 1, j, none⟩ u) q' ma mc st where
  box := by rw [← he]; exact setCell_same h.box
  rdr := (upd_set1 W (w.heap.size + 1) j u).block _ h.rdr.lt (by omega) |>.trans h.rdr
  mem := by rw [hm]; exact owns_upd h.mem (upd_set1 W (w.heap.size + 1) j u) (fun g hg e => (h.memne g hg).1 e)
  bel := h.bel.trans ((upd_set1 W (w.heap.size + 1) j u).toBelow h.bel.size (fun k e => by omega))

theorem RdW.cells {w W : World} {q : Wd} {ma : Option Addr} {mc : Nat} {st : RS} (h : RdW w W q ma mc st) :
    (W.cell? ⟨w.heap.size + 1, 0, none⟩ = some (.int .u8 (q.kind.toNat : Int)) ∧ W.cell? ⟨w.heap.size + 1, 1, none⟩ = some (.string (bs q.group)) ∧ W.cell? ⟨w.heap.size + 1, 2, none⟩ = some (.int .i64 q.gen) ∧ W.cell? ⟨w.heap.size + 1, 3, none⟩ = some (.int .i64 q.parts) ∧
      W.cell? ⟨w.heap.size + 1, 4, none⟩ = some (.slice ma q.members.length mc) ∧ W.cell? ⟨w.heap.size + 1, 5, none⟩ = some (.int .i64 q.part) ∧ W.cell? ⟨w.heap.size + 1, 6, none⟩ = some (.int .i64 q.off) ∧ W.cell? ⟨w.heap.size + 1, 7, none⟩ = some (.int .i64 q.code)) ∧
    ∀ j, W.frozen? ⟨w.heap.size + 1, j, none⟩ = false :=
  ⟨⟨cells_of h.box 0 _ rfl, cells_of h.box 1 _ rfl, cells_of h.box 2 _ rfl, cells_of h.box 3 _ rfl, cells_of h.box 4 _ rfl, cells_of h.box 5 _ rfl, cells_of h.box 6 _ rfl, cells_of h.box 7 _ rfl⟩, fun _j => frozen_of h.box⟩

/-- A box of eight words is written over. -/
theorem set8 {w : World} {b : Nat} {T : TypeId} {x0 x1 x2 x3 x4 x5 x6 x7 : Value} (h : w.heap[b]? = some (.cells #[x0, x1, x2, x3, x4, x5, x6, x7] T (0, 0))) (y0 y1 y2 y3 y4 y5 y6 y7 : Value) :
    ((((((((w.setCell ⟨b, 0, none⟩ y0).setCell ⟨b, 1, none⟩ y1).setCell ⟨b, 2, none⟩ y2).setCell ⟨b, 3, none⟩ y3).setCell ⟨b, 4, none⟩ y4).setCell ⟨b, 5, none⟩ y5).setCell ⟨b, 6, none⟩ y6).setCell ⟨b, 7, none⟩ y7).heap[b]? = some (.cells #[y0, y1, y2, y3, y4, y5, y6, y7] T (0, 0)) ∧ Upd (fun k => k = b) w ((((((((w.setCell ⟨b, 0, none⟩ y0).setCell ⟨b, 1, none⟩ y1).setCell ⟨b, 2, none⟩ y2).setCell ⟨b, 3, none⟩ y3).setCell ⟨b, 4, none⟩ y4).setCell ⟨b, 5, none⟩ y5).setCell ⟨b, 6, none⟩ y6).setCell ⟨b, 7, none⟩ y7) := by
  have h1 : (w.setCell ⟨b, 0, none⟩ y0).heap[b]? = some (.cells #[y0, x1, x2, x3, x4, x5, x6, x7] T (0, 0)) := setCell_same (o := 0) (v := y0) h
  have h2 : ((w.setCell ⟨b, 0, none⟩ y0).setCell ⟨b, 1, none⟩ y1).heap[b]? = some (.cells #[y0, y1, x2, x3, x4, x5, x6, x7] T (0, 0)) := setCell_same (o := 1) (v := y1) h1
  have h3 : (((w.setCell ⟨b, 0, none⟩ y0).setCell ⟨b, 1, none⟩ y1).setCell ⟨b, 2, none⟩ y2).heap[b]? = some (.cells #[y0, y1, y2, x3, x4, x5, x6, x7] T (0, 0)) := setCell_same (o := 2) (v := y2) h2
  have h4 : ((((w.setCell ⟨b, 0, none⟩ y0).setCell ⟨b, 1, none⟩ y1).setCell ⟨b, 2, none⟩ y2).setCell ⟨b, 3, none⟩ y3).heap[b]? = some (.cells #[y0, y1, y2, y3, x4, x5, x6, x7] T (0, 0)) := setCell_same (o := 3) (v := y3) h3
  have h5 : (((((w.setCell ⟨b, 0, none⟩ y0).setCell ⟨b, 1, none⟩ y1).setCell ⟨b, 2, none⟩ y2).setCell ⟨b, 3, none⟩ y3).setCell ⟨b, 4, none⟩ y4).heap[b]? = some (.cells #[y0, y1, y2, y3, y4, x5, x6, x7] T (0, 0)) := setCell_same (o := 4) (v := y4) h4
  have h6 : ((((((w.setCell ⟨b, 0, none⟩ y0).setCell ⟨b, 1, none⟩ y1).setCell ⟨b, 2, none⟩ y2).setCell ⟨b, 3, none⟩ y3).setCell ⟨b, 4, none⟩ y4).setCell ⟨b, 5, none⟩ y5).heap[b]? = some (.cells #[y0, y1, y2, y3, y4, y5, x6, x7] T (0, 0)) := setCell_same (o := 5) (v := y5) h5
  have h7 : (((((((w.setCell ⟨b, 0, none⟩ y0).setCell ⟨b, 1, none⟩ y1).setCell ⟨b, 2, none⟩ y2).setCell ⟨b, 3, none⟩ y3).setCell ⟨b, 4, none⟩ y4).setCell ⟨b, 5, none⟩ y5).setCell ⟨b, 6, none⟩ y6).heap[b]? = some (.cells #[y0, y1, y2, y3, y4, y5, y6, x7] T (0, 0)) := setCell_same (o := 6) (v := y6) h6
  have h8 : ((((((((w.setCell ⟨b, 0, none⟩ y0).setCell ⟨b, 1, none⟩ y1).setCell ⟨b, 2, none⟩ y2).setCell ⟨b, 3, none⟩ y3).setCell ⟨b, 4, none⟩ y4).setCell ⟨b, 5, none⟩ y5).setCell ⟨b, 6, none⟩ y6).setCell ⟨b, 7, none⟩ y7).heap[b]? = some (.cells #[y0, y1, y2, y3, y4, y5, y6, y7] T (0, 0)) := setCell_same (o := 7) (v := y7) h7
  exact ⟨h8, ((((((((upd_set1 w b 0 y0).trans (upd_set1 _ b 1 y1)).trans (upd_set1 _ b 2 y2)).trans (upd_set1 _ b 3 y3)).trans (upd_set1 _ b 4 y4)).trans (upd_set1 _ b 5 y5)).trans (upd_set1 _ b 6 y6)).trans (upd_set1 _ b 7 y7))⟩

theorem RdW.int {w W : World} {q : Wd} {ma : Option Addr} {mc : Nat} {st : RS} (h : RdW w W q ma mc st) (hf : fuel st ≤ 200000) (hE : Env w) : Calls Tryz.prog 49 #[.pointer (some ⟨w.heap.size + 2, 0, none⟩)] W fun e w' => e = .returned (.int .i64 (rdI st).1) ∧ RdW w w' q ma mc (rdI st).2 := by
  refine (BrInt_any h.rdr (by omega) (hE.below h.bel)).mono ?_
  rintro e w' ⟨rfl, hr, hu⟩
  exact ⟨rfl, h.step hu hr⟩
theorem RdW.open {w W : World} {q : Wd} {ma : Option Addr} {mc : Nat} {st : RS} (h : RdW w W q ma mc st) : Calls Tryz.prog 48 #[.pointer (some ⟨w.heap.size + 2, 0, none⟩)] W fun e w' => e = .returned (.tuple #[]) ∧ RdW w w' q ma mc (rdS 108 st) := by
  refine (BrOpen_any h.rdr).mono ?_
  rintro e w' ⟨rfl, hr, hu⟩
  exact ⟨rfl, h.step hu hr⟩
theorem RdW.close {w W : World} {q : Wd} {ma : Option Addr} {mc : Nat} {st : RS} (h : RdW w W q ma mc st) : Calls Tryz.prog 52 #[.pointer (some ⟨w.heap.size + 2, 0, none⟩)] W fun e w' => e = .returned (.tuple #[]) ∧ RdW w w' q ma mc (rdS 101 st) := by
  refine (BrClose_any h.rdr).mono ?_
  rintro e w' ⟨rfl, hr, hu⟩
  exact ⟨rfl, h.step hu hr⟩
theorem RdW.text {w W : World} {q : Wd} {ma : Option Addr} {mc : Nat} {st : RS} (h : RdW w W q ma mc st) (hf : fuel st ≤ 200000) (hE : Env w) : Calls Tryz.prog 51 #[.pointer (some ⟨w.heap.size + 2, 0, none⟩), .int .i64 8] W fun e w' => e = .returned (.string (bs (rdT 8 st).1)) ∧ RdW w w' q ma mc (rdT 8 st).2 := by
  refine (BrText_any (most := 8) (by decide) h.rdr (by omega) (hE.below h.bel)).mono ?_
  rintro e w' ⟨rfl, hr, hu⟩
  exact ⟨rfl, h.step hu hr⟩

/-- The members' row has grown, and is written into the box. -/
theorem RdW.grow {w W W' : World} {q : Wd} {ma ma' : Option Addr} {mc mc' : Nat} {st : RS} (h : RdW w W q ma mc st) (hu : Upd (fun k => some k = (Value.slice ma q.members.length mc).ownBlock) W W') (M : List (List UInt8))
    (hown : W'.ownsRow w.heap.size 9 1 (.slice ma' M.length mc') M.length (strCells M)) :
    (W'.cell? ⟨w.heap.size + 1, 4, none⟩ = some (.slice ma q.members.length mc) ∧ W'.frozen? ⟨w.heap.size + 1, 4, none⟩ = false) ∧ RdW w (W'.setCell ⟨w.heap.size + 1, 4, none⟩ (.slice ma' M.length mc')) ⟨q.kind, q.group, q.gen, q.parts, M, q.part, q.off, q.code⟩ ma' mc' st := by
  have hbx := (hu.block _ (Array.getElem?_eq_some_iff.1 h.box).1 (fun e => (h.memne _ e.symm).1 rfl)).trans h.box
  have hrd : RdAt W' (w.heap.size + 2) st := (hu.block _ h.rdr.lt (fun e => (h.memne _ e.symm).2 rfl)).trans h.rdr
  have hbl : Below w.heap.size w W' := h.bel.trans (hu.toBelow h.bel.size (fun k e => (owns_lt h.mem k e.symm).1))
  have hne : ∀ g, (Value.slice ma' M.length mc').ownBlock = some g → g ≠ w.heap.size + 1 := by
    intro g hg e
    subst e
    rcases hown.2 with ⟨h0, _⟩ | ⟨g', cap, cur, hv, _, h3, _⟩
    · rw [h0] at hg; cases hg
    · rw [hv] at hg
      simp only [Value.ownBlock, Option.some.injEq] at hg
      rw [hg, hbx] at h3
      simp at h3
  have hs := upd_set1 W' (w.heap.size + 1) 4 (.slice ma' M.length mc')
  refine ⟨⟨cells_of hbx 4 _ rfl, frozen_of hbx⟩, ⟨setCell_same (o := 4) (v := .slice ma' M.length mc') hbx, (hs.block _ hrd.lt (by omega)).trans hrd, owns_upd hown hs (fun g hg e => hne g hg e), hbl.trans (hs.toBelow hbl.size (fun k e => by omega))⟩⟩

/-- What flock.read answers. -/
def ReadTo (w : World) (q : Wd × Bool) (e : Ending) (w' : World) : Prop :=
  ∃ (ma : Option Addr) (mc : Nat), e = .returned (.tuple #[.agg #[.int .u8 (q.1.kind.toNat : Int), .string (bs q.1.group), .int .i64 q.1.gen, .int .i64 q.1.parts, .slice ma q.1.members.length mc, .int .i64 q.1.part, .int .i64 q.1.off, .int .i64 q.1.code], .bool q.2]) ∧
    w'.ownsRow w.heap.size 9 1 (.slice ma q.1.members.length mc) q.1.members.length (strCells q.1.members) ∧ Below w.heap.size w w'

set_option maxRecDepth 100000 in
set_option maxHeartbeats 4000000 in
theorem read_any {w : World} (c : UInt8) (g val : List UInt8) (off : Int) (hs : val.length ≤ 100000) (hg : g.length ≤ 100000) (hE : Env w) : Calls Tryz.prog 23 #[.agg #[.int .i64 off, .string (bs (c :: g)), .string (bs val), .bool false]] w (ReadTo w (readP (c :: g) val false)) := by
  obtain ⟨st, hst⟩ : ∃ st, rdS 108 (val, false) = st := ⟨_, rfl⟩
  have hfu : fuel st ≤ 200000 := by
    rw [← hst]
    have h1 := rdS_le 108 (val, false)
    have h2 : fuel (val, false) = val.length + 1 := rfl
    omega
  have hP : readP (c :: g) val false = if ((rdBody c g st).2.1 && rdD (rdS 101 (rdBody c g st).2.2)) = true then ((rdBody c g st).1, true) else (.zero, false) := by simp only [readP, hst, Bool.false_eq_true, if_false]
  rw [hP]
  clear hP
  obtain ⟨R, hR⟩ : ∃ R, (if ((rdBody c g st).2.1 && rdD (rdS 101 (rdBody c g st).2.2)) = true then ((rdBody c g st).1, true) else (.zero, false)) = R := ⟨_, rfl⟩
  rw [hR]
  have HRR := Lib.hid hR
  clear hR
  have e0 : ¬ (bs (c :: g)).toList = [] := by rw [bs_toList]; simp
  have e0' : (bs (c :: g)).toList.isEmpty = false := by rw [bs_toList]; rfl
  have hz : (bs (c :: g)).size = g.length + 1 := by rw [bs_size]; simp
  have hz1 : (0 : Int) < ((bs (c :: g)).size : Int) := by rw [hz]; omega
  have hz2 : (1 : Int) ≤ ((bs (c :: g)).size : Int) := by rw [hz]; omega
  have hHE := Lib.hid hE
  obtain ⟨wa, hwa⟩ : ∃ wa, wa = (w.alloc (.cells #[.int .i64 off, .string (bs (c :: g)), .string (bs val), .bool false] 28)).alloc (.cells #[.int .u8 0, .string ⟨#[]⟩, .int .i64 0, .int .i64 0, .slice none 0 0, .int .i64 0, .int .i64 0, .int .i64 0] 60) := ⟨_, rfl⟩
  have hba : Below w.heap.size w wa := by rw [hwa]; exact below_alloc2 _ _ _
  have hsa : wa.heap.size = w.heap.size + 2 := by rw [hwa]; simp
  have hX : wa.heap[w.heap.size]? = some (.cells #[.int .i64 off, .string (bs (c :: g)), .string (bs val), .bool false] 28 (0, 0)) := by rw [hwa, Below.heap_alloc _ _ _ (by simp)]; exact heap_alloc_new _ _
  have hV : wa.heap[w.heap.size + 1]? = some (.cells #[.int .u8 0, .string ⟨#[]⟩, .int .i64 0, .int .i64 0, .slice none 0 0, .int .i64 0, .int .i64 0, .int .i64 0] 60 (0, 0)) := by rw [hwa]; exact heap_new1 _ _ _
  have x0 := cells_of hX 0 _ rfl
  have x1 := cells_of hX 1 _ rfl
  have x2 := cells_of hX 2 _ rfl
  have x3 := cells_of hX 3 _ rfl
  have HX := Lib.hid hX
  have HV := Lib.hid hV
  have HB := Lib.hid hba
  have hbn : Calls Tryz.prog 47 #[.string (bs val)] wa fun e w' => e = .returned (.pointer (some ⟨w.heap.size + 2, 0, none⟩)) ∧ RdW w w' .zero none 0 (val, false) ∧ Below wa.heap.size wa w' := by
    refine (BNew_any val wa).mono ?_
    rintro e w' ⟨rfl, hr, hb⟩
    rw [hsa] at hr
    exact ⟨by rw [hsa], ⟨(hb.block _ (by omega)).trans hV, hr, World.ownsRow_nil _ _ _ _, hba.trans (hb.mono (by omega))⟩, hb⟩
  have hop : ∀ W, RdW w W .zero none 0 (val, false) → Below wa.heap.size wa W → Calls Tryz.prog 48 #[.pointer (some ⟨w.heap.size + 2, 0, none⟩)] W fun e w' => e = .returned (.tuple #[]) ∧ RdW w w' .zero none 0 st ∧ Below wa.heap.size wa w' := by
    intro W hW hb
    refine (BrOpen_any hW.rdr).mono ?_
    rintro e w' ⟨rfl, hr, hu⟩
    rw [hst] at hr
    exact ⟨rfl, hW.step hu hr, hb.trans (hu.toBelow hb.size (fun k e => by omega))⟩
  have hxk : ∀ W, Below wa.heap.size wa W → W.cell? ⟨w.heap.size, 1, none⟩ = some (.string (bs (c :: g))) := fun W hb => below_some hb x1 (by omega)
  have HBN := Lib.hid hbn
  have HOP := Lib.hid hop
  have HXK := Lib.hid hxk
  clear hX hV hba hE hbn hop hxk
  go_enter Tryz.func23, Tryz.ntmps23
  go_wp2
  refine wp_scope_goto 0 rfl ?_
  rw [← hwa]
  clear hwa
  go_upto_region 5 with (first | (go_at_call 47; refine HBN.out.mono ?_; rintro _ w1 ⟨rfl, hr1, hb1⟩) | (go_at_call 48; refine (HOP.out w1 hr1 hb1).mono ?_; rintro _ w2 ⟨rfl, hr2, hb2⟩))
  have y1 := HXK.out w2 hb2
  obtain ⟨⟨v0, v1, -, -, -, -, -, -⟩, hfz⟩ := hr2.cells
  have f0 := hfz 0
  have f1 := hfz 1
  have HR2 := Lib.hid hr2
  clear hr1 hr2 hb1 hfz x0 x1 x2 x3 HBN HOP HX HV
  go_cut [] from 18 to 25 (fun wx => RdW w wx ⟨c, g, 0, 0, [], 0, 0, 0⟩ none 0 st)
  case first =>
    go_region
    all_goals
      have e1 : (bs (c :: g))[0]'(by rw [hz]; omega) = c := by rw [bs_get]; rfl
      have e2 : (bs (c :: g)).extract 1 (g.length + 1) = bs g := by rw [bs_extract]; simp
      go_wp2_with fail
      go_meet
      rw [e1, e2]
      have h1 := HR2.out.put (q' := ⟨c, [], 0, 0, [], 0, 0, 0⟩) 0 (.int .u8 (c.toNat : Int)) rfl rfl
      have h2 := h1.put (q' := ⟨c, g, 0, 0, [], 0, 0, 0⟩) 1 (.string (bs g)) rfl rfl
      exact h2.below (Below.refl _ _).drew
  case rest =>
    have HC := Lib.hid hcut
    clear HR2 hcut y1 v0 v1 f0 f1 hb2
    obtain ⟨⟨v0, -, -, -, -, -, -, -⟩, -⟩ := HC.out.cells
    go_upto_block 0 with fail
    go_cut [3] from 28 to 118 (fun v wx => ∃ (q : Wd) (ma : Option Addr) (mc : Nat), v = .bool (rdBody c g st).2.1 ∧ RdW w wx q ma mc (rdBody c g st).2.2 ∧ ((rdBody c g st).2.1 = true → q = (rdBody c g st).1))
    case first =>
      clear HXK HB
      have hfI : ∀ st : RS, fuel st ≤ 200000 → fuel (rdI st).2 ≤ 200000 := fun st h => Nat.le_trans (rdI_le st) h
      by_cases h1 : c = 116
      · subst h1
        clear HRR
        have hb : rdBody 116 g st = rdTurn g st := by simp [rdBody]
        have HB := Lib.hid hb
        clear hb
        obtain ⟨a1, ha1⟩ : ∃ a1, rdI st = a1 := ⟨_, rfl⟩
        obtain ⟨a2, ha2⟩ : ∃ a2, rdI a1.2 = a2 := ⟨_, rfl⟩
        have hf1 : fuel a1.2 ≤ 200000 := by rw [← ha1]; exact hfI st hfu
        have hf2 : fuel a2.2 ≤ 200000 := by rw [← ha2]; exact hfI _ hf1
        obtain ⟨a3, ha3⟩ : ∃ a3, rdS 108 a2.2 = a3 := ⟨_, rfl⟩
        have hf3 : fuel a3 ≤ 200000 := by rw [← ha3]; exact Nat.le_trans (rdS_le _ _) hf2
        have hi1 : ∀ W q ma mc, RdW w W q ma mc st → Calls Tryz.prog 49 #[.pointer (some ⟨w.heap.size + 2, 0, none⟩)] W fun e w' => e = .returned (.int .i64 a1.1) ∧ RdW w w' q ma mc a1.2 := fun W q ma mc h => by rw [← ha1]; exact h.int hfu hHE.out
        have hi2 : ∀ W q ma mc, RdW w W q ma mc a1.2 → Calls Tryz.prog 49 #[.pointer (some ⟨w.heap.size + 2, 0, none⟩)] W fun e w' => e = .returned (.int .i64 a2.1) ∧ RdW w w' q ma mc a2.2 := fun W q ma mc h => by rw [← ha2]; exact h.int hf1 hHE.out
        have hi3 : ∀ W q ma mc, RdW w W q ma mc a2.2 → Calls Tryz.prog 48 #[.pointer (some ⟨w.heap.size + 2, 0, none⟩)] W fun e w' => e = .returned (.tuple #[]) ∧ RdW w w' q ma mc a3 := fun W q ma mc h => by rw [← ha3]; exact h.open
        have HI1 := Lib.hid hi1
        have HI2 := Lib.hid hi2
        have HI3 := Lib.hid hi3
        have HA := Lib.hid (And.intro ha1 (And.intro ha2 ha3))
        clear hi1 hi2 hi3 ha1 ha2 ha3
        go_upto_block 1 with (first
          | (go_at_call 49; with_reducible refine (HI1.out _ _ _ _ HC.out).mono ?_; rintro _ w3 ⟨rfl, hq3⟩; have HQ3 := Lib.hid hq3; clear hq3)
          | (go_at_call 49; with_reducible refine (HI2.out _ _ _ _ HQ3.out).mono ?_; rintro _ w4 ⟨rfl, hq4⟩; obtain ⟨⟨z0, z1, z2, z3, z4, z5, z6, z7⟩, fz⟩ := hq4.cells; have fz2 := fz 2; have fz3 := fz 3; have HQ4 := Lib.hid ((hq4.put (q' := ⟨116, g, a1.1, 0, [], 0, 0, 0⟩) 2 (.int .i64 a1.1) rfl rfl).put (q' := ⟨116, g, a1.1, a2.1, [], 0, 0, 0⟩) 3 (.int .i64 a2.1) rfl rfl); clear hq4 fz)
          | (go_at_call 48; with_reducible refine (HI3.out _ _ _ _ HQ4.out).mono ?_; rintro _ w5 ⟨rfl, hq5⟩; have HQ5 := Lib.hid hq5; clear hq5))
        obtain ⟨M, hM⟩ : ∃ M, rdMs a3 = M := ⟨_, rfl⟩
        have HM := Lib.hid hM
        clear HI1 HI2 HI3 HQ3 HQ4 z0 z1 z2 z3 z4 z5 z6 z7 fz2 fz3 hM
        go_wp2
        go_loopg [] (fuel a3) (fun gk wr => ∃ (f : Nat) (acc : List (List UInt8)) (ma : Option Addr) (mc : Nat) (s' : RS), gk = fuel s' ∧ fuel s' ≤ f ∧ many (rdT 8) (fun _ => true) f s' acc = M ∧ acc.length + fuel s' ≤ 200000 ∧ RdW w wr ⟨116, g, a1.1, a2.1, acc, 0, 0, 0⟩ ma mc s')
        case atStart => exact ⟨fuel a3, [], none, 0, a3, rfl, Nat.le_refl _, HM.out, by simpa using hf3, HQ5.out⟩
        case round =>
          obtain ⟨f, acc, ma, mc, s', rfl, hff, hmany, hlen, hq⟩ := hrel
          have HQ := Lib.hid hq
          have hmore : Calls Tryz.prog 50 #[.pointer (some ⟨w.heap.size + 2, 0, none⟩)] wr fun e w' => e = .returned (.bool (rdM s')) ∧ w' = wr := BrMore_any hq.rdr
          cases hrm : rdM s' with
          | true =>
            rw [hrm] at hmore
            obtain ⟨f', hm1, hf'⟩ := many_go (ok := fun _ => true) (acc := acc) (fun st h => rdT_lt (most := 8) (by decide) h) hrm rfl hff
            have hlt := rdT_lt (most := 8) (by decide) (rdM_ok hrm)
            rw [hm1] at hmany
            obtain ⟨⟨z0, z1, z2, z3, z4, z5, z6, z7⟩, fz⟩ := hq.cells
            have HMO := Lib.hid hmore
            have HMA := Lib.hid (And.intro hmany (And.intro hf' hlt))
            clear hmore hm1 hf' hmany hrm hq z0 z1 z2 z3 z5 z6 z7 fz
            go_upto_region 11 with (first | (go_at_call 50; refine HMO.out.mono ?_; rintro _ w6 ⟨rfl, rfl⟩))
            have htx : ∀ W', RdW w W' ⟨116, g, a1.1, a2.1, acc, 0, 0, 0⟩ ma mc s' → Calls Tryz.prog 51 #[.pointer (some ⟨w.heap.size + 2, 0, none⟩), .int .i64 8] W' fun e w' => e = .returned (.string (bs (rdT 8 s').1)) ∧ RdW w w' ⟨116, g, a1.1, a2.1, acc, 0, 0, 0⟩ ma mc (rdT 8 s').2 := fun W' h => h.text (by omega) hHE.out
            have HTX := Lib.hid htx
            clear htx
            generalize (rdT 8 s').1 = t at *
            generalize (rdT 8 s').2 = s2 at *
            obtain ⟨i1, ki, kz0, kz1, kz2⟩ := info_parts info_Str
            go_region_law
              (first
                | (refine step_append_lies _ (by rfl) _ _ _ (by rfl) w.heap.size 9 i1 _ 1 16 und_Strings ki kz0 kz1 kz2 rfl (by omega) (.slice ma acc.length mc) acc.length (strCells acc) (by rfl) (HQ7.out.mem.alloc _) ⟨w7.heap.size, 0, none⟩ 1 1 [.string (bs t)] (by rfl) (by rfl) (World.news_of_block (cs := #[.string (bs t)]) (t := 9) (fr := (0, 0)) (heap_alloc_new w7 _)) (by simp [Value.oneCell']) (by omega) ?_ ?_ ?_ _ rfl ?_; (unfold maxLen; omega); omega; (have hbz := HQ7.out.bel.size; (first | (simp only [World.size_alloc]; omega) | omega)); rintro g9 gcap9 w9 hown9 hgrow9 - hlt9; have hG := HQ7.out.grow (M := acc ++ [t]) (ma' := some ⟨g9, 0, none⟩) (mc' := gcap9) ((upd_alloc _ w7 _).trans (upd_grown hgrow9)) (by simpa [strCells] using hown9); obtain ⟨⟨c49, f49⟩, hR9⟩ := hG; have HR9 := Lib.hid hR9; clear hR9 hown9 hgrow9)
                | (go_simp; go_at_call 51; refine (HTX.out _ (HQ.out.below (Below.refl _ _).drew)).mono ?_; rintro e w7 ⟨rfl, hq7⟩; have z47 := cells_of hq7.box 4 _ rfl; have z47a : ∀ o, (w7.alloc o).cell? ⟨w.heap.size + 1, 4, none⟩ = some (.slice ma acc.length mc) := (fun o => cells_of (hq7.below (below_alloc w7 o)).box 4 _ rfl); have HQ7 := Lib.hid hq7; clear hq7))
            all_goals
              go_wp2_with fail
              go_roundg (fuel s2)
              case measure => have := HMA.out.2.2; omega
              case rel =>
                have h9 := HR9.out
                have e : (acc ++ [t]).length = acc.length + 1 := by simp
                rw [e] at h9
                exact ⟨f', acc ++ [t], some ⟨g9, 0, none⟩, gcap9, s2, rfl, HMA.out.2.1, HMA.out.1, by have := HMA.out.2.2; rw [e]; omega, h9⟩
          | false =>
            rw [hrm] at hmore
            have hm0 := many_stop (step := rdT 8) (ok := fun _ => true) (acc := acc) f (.inl hrm)
            rw [hm0] at hmany
            subst hmany
            have hT : rdBody 116 g st = (⟨116, g, a1.1, a2.1, acc, 0, 0, 0⟩, nameB g && (goodB acc && (decide (0 ≤ a2.1) && decide (a2.1 ≤ 4))), rdS 101 s') := by
              have h1 := HM.out
              rw [HB.out]
              simp only [rdTurn, HA.out.1, HA.out.2.1, HA.out.2.2, h1]
            have hcl := hq.close
            obtain ⟨s6, hs6⟩ : ∃ s6, rdS 101 s' = s6 := ⟨_, rfl⟩
            rw [hs6] at hcl hT
            obtain ⟨bn, hbn⟩ : ∃ bn, nameB g = bn := ⟨_, rfl⟩
            obtain ⟨bg, hbg⟩ : ∃ bg, goodB acc = bg := ⟨_, rfl⟩
            have hname : ∀ W, Calls Tryz.prog 32 #[.string (bs g)] W fun e w' => e = .returned (.bool bn) ∧ Below W.heap.size W w' := fun W => by rw [← hbn]; exact FisName_any g W
            have hgood : ∀ W, Strs W (.slice ma acc.length mc) acc → Calls Tryz.prog 53 #[.slice ma acc.length mc] W fun e w' => e = .returned (.bool bg) ∧ Below W.heap.size W w' := fun W h => by rw [← hbg]; exact SGood_any h
            rw [hbn, hbg] at hT
            have HT := Lib.hid hT
            have HCL := Lib.hid hcl
            have HNAME := Lib.hid hname
            have HGOOD := Lib.hid hgood
            have HMO := Lib.hid hmore
            clear hT hcl hname hgood hmore hbn hbg hrm hq hm0 hs6
            cases bn with
            | false =>
              go_wp2_with (first | (go_at_call 50; refine HMO.out.mono ?_; rintro _ w6 ⟨rfl, rfl⟩) | (go_at_call 52; refine (HCL.out).mono ?_; rintro _ w7 ⟨rfl, hq7⟩; obtain ⟨⟨z0, z1, z2, z3, z4, z5, z6, z7⟩, fz⟩ := hq7.cells; have HQ7 := Lib.hid hq7; clear hq7 fz) | (go_at_call 32; refine (HNAME.out _).mono ?_; rintro _ w8 ⟨rfl, hb8⟩; have hq8 := HQ7.out.below hb8; obtain ⟨⟨y0, y1, y2, y3, y4, y5, y6, y7⟩, fy⟩ := hq8.cells; have HQ8 := Lib.hid hq8; clear hq8 fy hb8) | (go_at_call 53; refine (HGOOD.out _ (Strs.of_owns HQ8.out.mem)).mono ?_; rintro _ w9 ⟨rfl, hb9⟩; have hq9 := HQ8.out.below hb9; obtain ⟨⟨x0, x1, x2, x3, x4, x5, x6, x7⟩, fx⟩ := hq9.cells; have HQ9 := Lib.hid hq9; clear hq9 fx hb9))
              go_meet
              exact ⟨⟨116, g, a1.1, a2.1, acc, 0, 0, 0⟩, ma, mc, by rw [HT.out]; rfl, by rw [HT.out]; exact HQ8.out, fun _ => by rw [HT.out]⟩
            | true =>
              cases bg with
              | false =>
                go_wp2_with (first | (go_at_call 50; refine HMO.out.mono ?_; rintro _ w6 ⟨rfl, rfl⟩) | (go_at_call 52; refine (HCL.out).mono ?_; rintro _ w7 ⟨rfl, hq7⟩; obtain ⟨⟨z0, z1, z2, z3, z4, z5, z6, z7⟩, fz⟩ := hq7.cells; have HQ7 := Lib.hid hq7; clear hq7 fz) | (go_at_call 32; refine (HNAME.out _).mono ?_; rintro _ w8 ⟨rfl, hb8⟩; have hq8 := HQ7.out.below hb8; obtain ⟨⟨y0, y1, y2, y3, y4, y5, y6, y7⟩, fy⟩ := hq8.cells; have HQ8 := Lib.hid hq8; clear hq8 fy hb8) | (go_at_call 53; refine (HGOOD.out _ (Strs.of_owns HQ8.out.mem)).mono ?_; rintro _ w9 ⟨rfl, hb9⟩; have hq9 := HQ8.out.below hb9; obtain ⟨⟨x0, x1, x2, x3, x4, x5, x6, x7⟩, fx⟩ := hq9.cells; have HQ9 := Lib.hid hq9; clear hq9 fx hb9))
                go_meet
                exact ⟨⟨116, g, a1.1, a2.1, acc, 0, 0, 0⟩, ma, mc, by rw [HT.out]; rfl, by rw [HT.out]; exact HQ9.out, fun _ => by rw [HT.out]⟩
              | true =>
                by_cases p0 : 0 ≤ a2.1
                · by_cases p4 : a2.1 ≤ 4
                  · go_wp2_with (first | (go_at_call 50; refine HMO.out.mono ?_; rintro _ w6 ⟨rfl, rfl⟩) | (go_at_call 52; refine (HCL.out).mono ?_; rintro _ w7 ⟨rfl, hq7⟩; obtain ⟨⟨z0, z1, z2, z3, z4, z5, z6, z7⟩, fz⟩ := hq7.cells; have HQ7 := Lib.hid hq7; clear hq7 fz) | (go_at_call 32; refine (HNAME.out _).mono ?_; rintro _ w8 ⟨rfl, hb8⟩; have hq8 := HQ7.out.below hb8; obtain ⟨⟨y0, y1, y2, y3, y4, y5, y6, y7⟩, fy⟩ := hq8.cells; have HQ8 := Lib.hid hq8; clear hq8 fy hb8) | (go_at_call 53; refine (HGOOD.out _ (Strs.of_owns HQ8.out.mem)).mono ?_; rintro _ w9 ⟨rfl, hb9⟩; have hq9 := HQ8.out.below hb9; obtain ⟨⟨x0, x1, x2, x3, x4, x5, x6, x7⟩, fx⟩ := hq9.cells; have HQ9 := Lib.hid hq9; clear hq9 fx hb9))
                    go_meet
                    exact ⟨⟨116, g, a1.1, a2.1, acc, 0, 0, 0⟩, ma, mc, by rw [HT.out]; first | (simp [p0, p4]; done) | (simp; omega), by rw [HT.out]; exact HQ9.out, fun _ => by rw [HT.out]⟩
                  · go_wp2_with (first | (go_at_call 50; refine HMO.out.mono ?_; rintro _ w6 ⟨rfl, rfl⟩) | (go_at_call 52; refine (HCL.out).mono ?_; rintro _ w7 ⟨rfl, hq7⟩; obtain ⟨⟨z0, z1, z2, z3, z4, z5, z6, z7⟩, fz⟩ := hq7.cells; have HQ7 := Lib.hid hq7; clear hq7 fz) | (go_at_call 32; refine (HNAME.out _).mono ?_; rintro _ w8 ⟨rfl, hb8⟩; have hq8 := HQ7.out.below hb8; obtain ⟨⟨y0, y1, y2, y3, y4, y5, y6, y7⟩, fy⟩ := hq8.cells; have HQ8 := Lib.hid hq8; clear hq8 fy hb8) | (go_at_call 53; refine (HGOOD.out _ (Strs.of_owns HQ8.out.mem)).mono ?_; rintro _ w9 ⟨rfl, hb9⟩; have hq9 := HQ8.out.below hb9; obtain ⟨⟨x0, x1, x2, x3, x4, x5, x6, x7⟩, fx⟩ := hq9.cells; have HQ9 := Lib.hid hq9; clear hq9 fx hb9))
                    go_meet
                    exact ⟨⟨116, g, a1.1, a2.1, acc, 0, 0, 0⟩, ma, mc, by rw [HT.out]; first | (simp [p0]; done) | (simp; omega), by rw [HT.out]; exact HQ9.out, fun _ => by rw [HT.out]⟩
                · go_wp2_with (first | (go_at_call 50; refine HMO.out.mono ?_; rintro _ w6 ⟨rfl, rfl⟩) | (go_at_call 52; refine (HCL.out).mono ?_; rintro _ w7 ⟨rfl, hq7⟩; obtain ⟨⟨z0, z1, z2, z3, z4, z5, z6, z7⟩, fz⟩ := hq7.cells; have HQ7 := Lib.hid hq7; clear hq7 fz) | (go_at_call 32; refine (HNAME.out _).mono ?_; rintro _ w8 ⟨rfl, hb8⟩; have hq8 := HQ7.out.below hb8; obtain ⟨⟨y0, y1, y2, y3, y4, y5, y6, y7⟩, fy⟩ := hq8.cells; have HQ8 := Lib.hid hq8; clear hq8 fy hb8) | (go_at_call 53; refine (HGOOD.out _ (Strs.of_owns HQ8.out.mem)).mono ?_; rintro _ w9 ⟨rfl, hb9⟩; have hq9 := HQ8.out.below hb9; obtain ⟨⟨x0, x1, x2, x3, x4, x5, x6, x7⟩, fx⟩ := hq9.cells; have HQ9 := Lib.hid hq9; clear hq9 fx hb9))
                  go_meet
                  exact ⟨⟨116, g, a1.1, a2.1, acc, 0, 0, 0⟩, ma, mc, by rw [HT.out]; first | (simp []; done) | (simp; omega), by rw [HT.out]; exact HQ9.out, fun _ => by rw [HT.out]⟩
      · have hc1 : ¬ ((c.toNat : Int) = 116) := byte_ne_nat (d := 116) h1
        have hcb1 : ((c.toNat : Int) == 116) = false := beq_eq_false_iff_ne.2 hc1
        by_cases h2 : c = 99
        · subst h2
          cases g with
          | nil =>
            have hb : rdBody 99 [] st = (.zero, false, st) := rfl
            rw [hb] at HRR
            have e1 : (bs ([] : List UInt8)).toList = [] := bs_toList []
            have e1' : (bs ([] : List UInt8)).toList.isEmpty = true := by rw [bs_toList]; rfl
            obtain ⟨⟨z0, z1, z2, z3, z4, z5, z6, z7⟩, fz⟩ := HC.out.cells
            have fz0 := fz 0
            have fz1 := fz 1
            have fz2 := fz 2
            have fz3 := fz 3
            have fz4 := fz 4
            have fz5 := fz 5
            have fz6 := fz 6
            have fz7 := fz 7
            clear fz
            clear hb
            go_wp2
            apply wp_goto
            repeat (first | simp only [Exit.inBlock, Exit.then, jump_goto] | go_big_open)
            go_wp2
            obtain ⟨hz, hu⟩ := set8 HC.out.box (.int .u8 0) (.string ⟨#[]⟩) (.int .i64 0) (.int .i64 0) (.slice none 0 0) (.int .i64 0) (.int .i64 0) (.int .i64 0)
            have s0 := cells_of hz 0 _ rfl
            have s1 := cells_of hz 1 _ rfl
            have s2 := cells_of hz 2 _ rfl
            have s3 := cells_of hz 3 _ rfl
            have s4 := cells_of hz 4 _ rfl
            have s5 := cells_of hz 5 _ rfl
            have s6 := cells_of hz 6 _ rfl
            have s7 := cells_of hz 7 _ rfl
            rw [Exit.noGoto_ret]
            exact bodyPost_ret (v := .tuple #[.agg #[.int .u8 0, .string ⟨#[]⟩, .int .i64 0, .int .i64 0, .slice none 0 0, .int .i64 0, .int .i64 0, .int .i64 0], .bool false]) (by simp [results, Tryz.results23, go_sem, s0, s1, s2, s3, s4, s5, s6, s7]) rfl ⟨none, 0, by rw [← HRR.out]; rfl, by rw [← HRR.out]; exact World.ownsRow_nil _ _ _ _, HC.out.bel.trans (hu.toBelow HC.out.bel.size (fun k e => by omega))⟩
          | cons d r =>
            have e1 : ¬ (bs (d :: r)).toList = [] := by rw [bs_toList]; simp
            have e1' : (bs (d :: r)).toList.isEmpty = false := by rw [bs_toList]; rfl
            have hzd : (bs (d :: r)).size = r.length + 1 := by rw [bs_size]; simp
            have hzd1 : (0 : Int) < ((bs (d :: r)).size : Int) := by rw [hzd]; omega
            have hzd2 : (1 : Int) ≤ ((bs (d :: r)).size : Int) := by rw [hzd]; omega
            have hd0 : ∀ h, (bs (d :: r))[0]'h = d := fun h => by rw [bs_get]; rfl
            have hd8 := d.toNat_lt
            obtain ⟨⟨z0, z1, z2, z3, z4, z5, z6, z7⟩, fz⟩ := HC.out.cells
            have fz0 := fz 0
            have fz1 := fz 1
            have fz2 := fz 2
            have fz3 := fz 3
            have fz4 := fz 4
            have fz5 := fz 5
            have fz6 := fz 6
            have fz7 := fz 7
            clear fz
            by_cases hlo : (d.toNat : Int) < 48
            · have hb : rdBody 99 (d :: r) st = (.zero, false, st) := by
                have : partDig d = false := by simp [partDig]; omega
                simp [rdBody, this]
              rw [hb] at HRR
              clear hb
              go_wp2
              apply wp_goto
              repeat (first | simp only [Exit.inBlock, Exit.then, jump_goto] | go_big_open)
              go_wp2
              obtain ⟨hz, hu⟩ := set8 HC.out.box (.int .u8 0) (.string ⟨#[]⟩) (.int .i64 0) (.int .i64 0) (.slice none 0 0) (.int .i64 0) (.int .i64 0) (.int .i64 0)
              have s0 := cells_of hz 0 _ rfl
              have s1 := cells_of hz 1 _ rfl
              have s2 := cells_of hz 2 _ rfl
              have s3 := cells_of hz 3 _ rfl
              have s4 := cells_of hz 4 _ rfl
              have s5 := cells_of hz 5 _ rfl
              have s6 := cells_of hz 6 _ rfl
              have s7 := cells_of hz 7 _ rfl
              rw [Exit.noGoto_ret]
              exact bodyPost_ret (v := .tuple #[.agg #[.int .u8 0, .string ⟨#[]⟩, .int .i64 0, .int .i64 0, .slice none 0 0, .int .i64 0, .int .i64 0, .int .i64 0], .bool false]) (by simp [results, Tryz.results23, go_sem, s0, s1, s2, s3, s4, s5, s6, s7]) rfl ⟨none, 0, by rw [← HRR.out]; rfl, by rw [← HRR.out]; exact World.ownsRow_nil _ _ _ _, HC.out.bel.trans (hu.toBelow HC.out.bel.size (fun k e => by omega))⟩
            · by_cases hhi : (52 : Int) ≤ (d.toNat : Int)
              · have hb : rdBody 99 (d :: r) st = (.zero, false, st) := by
                  have : partDig d = false := by simp [partDig]; omega
                  simp [rdBody, this]
                rw [hb] at HRR
                clear hb
                go_wp2
                apply wp_goto
                repeat (first | simp only [Exit.inBlock, Exit.then, jump_goto] | go_big_open)
                go_wp2
                obtain ⟨hz, hu⟩ := set8 HC.out.box (.int .u8 0) (.string ⟨#[]⟩) (.int .i64 0) (.int .i64 0) (.slice none 0 0) (.int .i64 0) (.int .i64 0) (.int .i64 0)
                have s0 := cells_of hz 0 _ rfl
                have s1 := cells_of hz 1 _ rfl
                have s2 := cells_of hz 2 _ rfl
                have s3 := cells_of hz 3 _ rfl
                have s4 := cells_of hz 4 _ rfl
                have s5 := cells_of hz 5 _ rfl
                have s6 := cells_of hz 6 _ rfl
                have s7 := cells_of hz 7 _ rfl
                rw [Exit.noGoto_ret]
                exact bodyPost_ret (v := .tuple #[.agg #[.int .u8 0, .string ⟨#[]⟩, .int .i64 0, .int .i64 0, .slice none 0 0, .int .i64 0, .int .i64 0, .int .i64 0], .bool false]) (by simp [results, Tryz.results23, go_sem, s0, s1, s2, s3, s4, s5, s6, s7]) rfl ⟨none, 0, by rw [← HRR.out]; rfl, by rw [← HRR.out]; exact World.ownsRow_nil _ _ _ _, HC.out.bel.trans (hu.toBelow HC.out.bel.size (fun k e => by omega))⟩
              · clear HRR
                have hb : rdBody 99 (d :: r) st = rdPoint d r st := by
                  have : partDig d = true := by simp [partDig]; omega
                  simp [rdBody, this]
                obtain ⟨a1, ha1⟩ : ∃ a1, rdI st = a1 := ⟨_, rfl⟩
                obtain ⟨a2, ha2⟩ : ∃ a2, rdI a1.2 = a2 := ⟨_, rfl⟩
                have hf1 : fuel a1.2 ≤ 200000 := by rw [← ha1]; exact hfI st hfu
                have hi1 : ∀ W q ma mc, RdW w W q ma mc st → Calls Tryz.prog 49 #[.pointer (some ⟨w.heap.size + 2, 0, none⟩)] W fun e w' => e = .returned (.int .i64 a1.1) ∧ RdW w w' q ma mc a1.2 := fun W q ma mc h => by rw [← ha1]; exact h.int hfu hHE.out
                have hi2 : ∀ W q ma mc, RdW w W q ma mc a1.2 → Calls Tryz.prog 49 #[.pointer (some ⟨w.heap.size + 2, 0, none⟩)] W fun e w' => e = .returned (.int .i64 a2.1) ∧ RdW w w' q ma mc a2.2 := fun W q ma mc h => by rw [← ha2]; exact h.int hf1 hHE.out
                have hex : (bs (d :: r)).extract 1 (r.length + 1) = bs r := by rw [bs_extract]; simp
                have hq2 := (HC.out.put (q' := ⟨99, d :: r, 0, 0, [], (d.toNat : Int) - 48, 0, 0⟩) 5 (.int .i64 ((d.toNat : Int) - 48)) rfl rfl).put (q' := ⟨99, r, 0, 0, [], (d.toNat : Int) - 48, 0, 0⟩) 1 (.string (bs r)) rfl rfl
                have hw8 : IntKind.u8.wrap ((d.toNat : Int) - 48) = (d.toNat : Int) - 48 := by
                  unfold IntKind.wrap
                  simp [IntKind.bits, IntKind.signed]
                  omega
                have hT : rdBody 99 (d :: r) st = (⟨99, r, a2.1, 0, [], (d.toNat : Int) - 48, a1.1, 0⟩, nameB r && offB a1.1, a2.2) := by rw [hb]; simp only [rdPoint, ha1, ha2]
                obtain ⟨bn, hbn⟩ : ∃ bn, nameB r = bn := ⟨_, rfl⟩
                obtain ⟨bo, hbo⟩ : ∃ bo, offB a1.1 = bo := ⟨_, rfl⟩
                have hname : ∀ W, Calls Tryz.prog 32 #[.string (bs r)] W fun e w' => e = .returned (.bool bn) ∧ Below W.heap.size W w' := fun W => by rw [← hbn]; exact FisName_any r W
                rw [hbn, hbo] at hT
                have hoff : (decide (0 ≤ a1.1) && decide (a1.1 ≤ 1099511627776)) = bo := hbo
                have HT := Lib.hid hT
                have HI1 := Lib.hid hi1
                have HI2 := Lib.hid hi2
                have HQ2 := Lib.hid hq2
                have HNAME := Lib.hid hname
                have HOFF := Lib.hid hoff
                clear hb hi1 hi2 hq2 hT hname hbn hbo hoff ha1 ha2
                have e1x : (bs (d :: r)).size = (r.length : Int) + 1 := by rw [hzd]; omega
                cases bn with
                | false =>
                  go_wp2_with (first | (go_at_call 49; with_reducible refine (HI1.out _ _ _ _ HQ2.out).mono ?_; rintro _ w3 ⟨rfl, hq3⟩; obtain ⟨⟨z0, z1, z2, z3, z4, z5, z6, z7⟩, fz⟩ := hq3.cells; have fz6 := fz 6; have HQ3 := Lib.hid (hq3.put (q' := ⟨99, r, 0, 0, [], (d.toNat : Int) - 48, a1.1, 0⟩) 6 (.int .i64 a1.1) rfl rfl); clear hq3 fz) | (go_at_call 49; with_reducible refine (HI2.out _ _ _ _ HQ3.out).mono ?_; rintro _ w4 ⟨rfl, hq4⟩; obtain ⟨⟨q0, q1, q2, q3, q4, q5, q6, q7⟩, fq⟩ := hq4.cells; have fq2 := fq 2; have HQ4 := Lib.hid (hq4.put (q' := ⟨99, r, a2.1, 0, [], (d.toNat : Int) - 48, a1.1, 0⟩) 2 (.int .i64 a2.1) rfl rfl); clear hq4 fq) | (go_at_call 32; refine (HNAME.out _).mono ?_; rintro _ w5 ⟨rfl, hb5⟩; have hq5 := HQ4.out.below hb5; obtain ⟨⟨y0, y1, y2, y3, y4, y5, y6, y7⟩, -⟩ := hq5.cells; have HQ5 := Lib.hid hq5; clear hq5 hb5))
                  go_meet
                  exact ⟨⟨99, r, a2.1, 0, [], (d.toNat : Int) - 48, a1.1, 0⟩, none, 0, by rw [HT.out]; rfl, by rw [HT.out]; exact HQ5.out, fun _ => by rw [HT.out]⟩
                | true =>
                  have hrb : ∀ (x : Bool), (true && x) = x := fun x => rfl
                  cases bo with
                  | false =>
                    go_wp2_with (first | (go_at_call 49; with_reducible refine (HI1.out _ _ _ _ HQ2.out).mono ?_; rintro _ w3 ⟨rfl, hq3⟩; obtain ⟨⟨z0, z1, z2, z3, z4, z5, z6, z7⟩, fz⟩ := hq3.cells; have fz6 := fz 6; have HQ3 := Lib.hid (hq3.put (q' := ⟨99, r, 0, 0, [], (d.toNat : Int) - 48, a1.1, 0⟩) 6 (.int .i64 a1.1) rfl rfl); clear hq3 fz) | (go_at_call 49; with_reducible refine (HI2.out _ _ _ _ HQ3.out).mono ?_; rintro _ w4 ⟨rfl, hq4⟩; obtain ⟨⟨q0, q1, q2, q3, q4, q5, q6, q7⟩, fq⟩ := hq4.cells; have fq2 := fq 2; have HQ4 := Lib.hid (hq4.put (q' := ⟨99, r, a2.1, 0, [], (d.toNat : Int) - 48, a1.1, 0⟩) 2 (.int .i64 a2.1) rfl rfl); clear hq4 fq) | (go_at_call 32; refine (HNAME.out _).mono ?_; rintro _ w5 ⟨rfl, hb5⟩; have hq5 := HQ4.out.below hb5; obtain ⟨⟨y0, y1, y2, y3, y4, y5, y6, y7⟩, -⟩ := hq5.cells; have HQ5 := Lib.hid hq5; clear hq5 hb5) | (go_at_call 54; refine (FisOff_any a1.1 _).mono ?_; rintro _ w6 ⟨rfl, rfl⟩; rw [HOFF.out]))
                    go_meet
                    exact ⟨⟨99, r, a2.1, 0, [], (d.toNat : Int) - 48, a1.1, 0⟩, none, 0, by rw [HT.out]; rfl, by rw [HT.out]; exact HQ5.out, fun _ => by rw [HT.out]⟩
                  | true =>
                    go_wp2_with (first | (go_at_call 49; with_reducible refine (HI1.out _ _ _ _ HQ2.out).mono ?_; rintro _ w3 ⟨rfl, hq3⟩; obtain ⟨⟨z0, z1, z2, z3, z4, z5, z6, z7⟩, fz⟩ := hq3.cells; have fz6 := fz 6; have HQ3 := Lib.hid (hq3.put (q' := ⟨99, r, 0, 0, [], (d.toNat : Int) - 48, a1.1, 0⟩) 6 (.int .i64 a1.1) rfl rfl); clear hq3 fz) | (go_at_call 49; with_reducible refine (HI2.out _ _ _ _ HQ3.out).mono ?_; rintro _ w4 ⟨rfl, hq4⟩; obtain ⟨⟨q0, q1, q2, q3, q4, q5, q6, q7⟩, fq⟩ := hq4.cells; have fq2 := fq 2; have HQ4 := Lib.hid (hq4.put (q' := ⟨99, r, a2.1, 0, [], (d.toNat : Int) - 48, a1.1, 0⟩) 2 (.int .i64 a2.1) rfl rfl); clear hq4 fq) | (go_at_call 32; refine (HNAME.out _).mono ?_; rintro _ w5 ⟨rfl, hb5⟩; have hq5 := HQ4.out.below hb5; obtain ⟨⟨y0, y1, y2, y3, y4, y5, y6, y7⟩, -⟩ := hq5.cells; have HQ5 := Lib.hid hq5; clear hq5 hb5) | (go_at_call 54; refine (FisOff_any a1.1 _).mono ?_; rintro _ w6 ⟨rfl, rfl⟩; rw [HOFF.out]))
                    go_meet
                    exact ⟨⟨99, r, a2.1, 0, [], (d.toNat : Int) - 48, a1.1, 0⟩, none, 0, by rw [HT.out]; rfl, by rw [HT.out]; exact HQ5.out, fun _ => by rw [HT.out]⟩
        · have hc2 : ¬ ((c.toNat : Int) = 99) := byte_ne_nat (d := 99) h2
          have hcb2 : ((c.toNat : Int) == 99) = false := beq_eq_false_iff_ne.2 hc2
          clear HRR
          by_cases h3 : c = 110
          · subst h3
            obtain ⟨a1, ha1⟩ : ∃ a1, rdI st = a1 := ⟨_, rfl⟩
            have hi1 : ∀ W q ma mc, RdW w W q ma mc st → Calls Tryz.prog 49 #[.pointer (some ⟨w.heap.size + 2, 0, none⟩)] W fun e w' => e = .returned (.int .i64 a1.1) ∧ RdW w w' q ma mc a1.2 := fun W q ma mc h => by rw [← ha1]; exact h.int hfu hHE.out
            have hT : rdBody 110 g st = (⟨110, g, 0, 0, [], 0, 0, a1.1⟩, g.isEmpty, a1.2) := by simp [rdBody, rdNo, ha1]
            have HT := Lib.hid hT
            have HI1 := Lib.hid hi1
            clear hi1 hT ha1
            have hge : (bs g).toList.isEmpty = g.isEmpty := by rw [bs_toList]
            cases g with
            | nil =>
              have e1 : (bs ([] : List UInt8)).toList = [] := bs_toList []
              go_wp2_with (first | (go_at_call 49; with_reducible refine (HI1.out _ _ _ _ HC.out).mono ?_; rintro _ w3 ⟨rfl, hq3⟩; obtain ⟨⟨z0, z1, z2, z3, z4, z5, z6, z7⟩, fz⟩ := hq3.cells; have fz7 := fz 7; have HQ3 := Lib.hid (hq3.put (q' := ⟨110, [], 0, 0, [], 0, 0, a1.1⟩) 7 (.int .i64 a1.1) rfl rfl); clear hq3 fz))
              go_meet
              exact ⟨⟨110, [], 0, 0, [], 0, 0, a1.1⟩, none, 0, by rw [HT.out]; rfl, by rw [HT.out]; exact HQ3.out, fun _ => by rw [HT.out]⟩
            | cons d r =>
              have e1 : ¬ (bs (d :: r)).toList = [] := by rw [bs_toList]; simp
              have e1' : (bs (d :: r)).toList.isEmpty = false := by rw [bs_toList]; rfl
              go_wp2_with (first | (go_at_call 49; with_reducible refine (HI1.out _ _ _ _ HC.out).mono ?_; rintro _ w3 ⟨rfl, hq3⟩; obtain ⟨⟨z0, z1, z2, z3, z4, z5, z6, z7⟩, fz⟩ := hq3.cells; have fz7 := fz 7; have HQ3 := Lib.hid (hq3.put (q' := ⟨110, d :: r, 0, 0, [], 0, 0, a1.1⟩) 7 (.int .i64 a1.1) rfl rfl); clear hq3 fz))
              go_meet
              exact ⟨⟨110, d :: r, 0, 0, [], 0, 0, a1.1⟩, none, 0, by rw [HT.out]; rfl, by rw [HT.out]; exact HQ3.out, fun _ => by rw [HT.out]⟩
          · have hc3 : ¬ ((c.toNat : Int) = 110) := byte_ne_nat (d := 110) h3
            have hcb3 : ((c.toNat : Int) == 110) = false := beq_eq_false_iff_ne.2 hc3
            have hT : rdBody c g st = (.zero, false, st) := by simp [rdBody, h1, h2, h3]
            have HT := Lib.hid hT
            clear hT
            go_wp2
            go_meet
            exact ⟨⟨c, g, 0, 0, [], 0, 0, 0⟩, none, 0, by rw [HT.out], by rw [HT.out]; exact HC.out, fun h => by rw [HT.out] at h; cases h⟩
    case rest =>
      obtain ⟨q, ma, mc, rfl, hq, hqe⟩ := hcut
      generalize (rdBody c g st).2.1 = ok at *
      generalize (rdBody c g st).2.2 = st' at *
      generalize (rdBody c g st).1 = q0 at *
      have hcl : Calls Tryz.prog 52 #[.pointer (some ⟨w.heap.size + 2, 0, none⟩)] wc fun e w' => e = .returned (.tuple #[]) ∧ RdW w w' q ma mc (rdS 101 st') := by
        refine (BrClose_any hq.rdr).mono ?_
        rintro e w' ⟨rfl, hr, hu⟩
        exact ⟨rfl, hq.step hu hr⟩
      have HCL := Lib.hid hcl
      have HQE := Lib.hid hqe
      clear hcl hq hqe v0 HC
      generalize rdS 101 st' = st2 at *
      cases ok with
      | false =>
        simp only [Bool.false_and, Bool.false_eq_true, if_false] at HRR
        go_wp2_with (first | (go_at_call 52; refine (HCL.out).mono ?_; rintro _ w3 ⟨rfl, hq3⟩; obtain ⟨⟨z0, z1, z2, z3, z4, z5, z6, z7⟩, fz⟩ := hq3.cells; have fz0 := fz 0; have fz1 := fz 1; have fz2 := fz 2; have fz3 := fz 3; have fz4 := fz 4; have fz5 := fz 5; have fz6 := fz 6; have fz7 := fz 7; have HQ3 := Lib.hid hq3; clear hq3 fz))
        refine wp_label ?_
        go_wp2
        obtain ⟨hz, hu⟩ := set8 HQ3.out.box (.int .u8 0) (.string ⟨#[]⟩) (.int .i64 0) (.int .i64 0) (.slice none 0 0) (.int .i64 0) (.int .i64 0) (.int .i64 0)
        have s0 := cells_of hz 0 _ rfl
        have s1 := cells_of hz 1 _ rfl
        have s2 := cells_of hz 2 _ rfl
        have s3 := cells_of hz 3 _ rfl
        have s4 := cells_of hz 4 _ rfl
        have s5 := cells_of hz 5 _ rfl
        have s6 := cells_of hz 6 _ rfl
        have s7 := cells_of hz 7 _ rfl
        try simp only [jump_ret]
        try rw [Exit.noGoto_ret]
        exact bodyPost_ret (v := .tuple #[.agg #[.int .u8 0, .string ⟨#[]⟩, .int .i64 0, .int .i64 0, .slice none 0 0, .int .i64 0, .int .i64 0, .int .i64 0], .bool false]) (by simp [results, Tryz.results23, go_sem, s0, s1, s2, s3, s4, s5, s6, s7]) rfl ⟨none, 0, by rw [← HRR.out]; rfl, by rw [← HRR.out]; exact World.ownsRow_nil _ _ _ _, HQ3.out.bel.trans (hu.toBelow HQ3.out.bel.size (fun k e => by omega))⟩
      | true =>
        have hq0 := HQE.out rfl
        subst hq0
        simp only [Bool.true_and] at HRR
        cases hd : rdD st2 with
        | false =>
          have HD : Hid ((if rdD st2 = true then (0 : Int) else 3) = 3) := Lib.hid (by rw [hd]; rfl)
          rw [hd] at HRR
          simp only [Bool.false_eq_true, if_false] at HRR
          clear hd
          go_wp2_with (first | (go_at_call 52; refine (HCL.out).mono ?_; rintro _ w3 ⟨rfl, hq3⟩; obtain ⟨⟨z0, z1, z2, z3, z4, z5, z6, z7⟩, fz⟩ := hq3.cells; have fz0 := fz 0; have fz1 := fz 1; have fz2 := fz 2; have fz3 := fz 3; have fz4 := fz 4; have fz5 := fz 5; have fz6 := fz 6; have fz7 := fz 7; have HQ3 := Lib.hid hq3; clear hq3 fz) | (go_at_call 55; refine (BrDone_any HQ3.out.rdr).mono ?_; rintro _ w4 ⟨rfl, rfl⟩; rw [HD.out]))
          refine wp_label ?_
          go_wp2
          obtain ⟨hz, hu⟩ := set8 HQ3.out.box (.int .u8 0) (.string ⟨#[]⟩) (.int .i64 0) (.int .i64 0) (.slice none 0 0) (.int .i64 0) (.int .i64 0) (.int .i64 0)
          have s0 := cells_of hz 0 _ rfl
          have s1 := cells_of hz 1 _ rfl
          have s2 := cells_of hz 2 _ rfl
          have s3 := cells_of hz 3 _ rfl
          have s4 := cells_of hz 4 _ rfl
          have s5 := cells_of hz 5 _ rfl
          have s6 := cells_of hz 6 _ rfl
          have s7 := cells_of hz 7 _ rfl
          try simp only [jump_ret]
          try rw [Exit.noGoto_ret]
          exact bodyPost_ret (v := .tuple #[.agg #[.int .u8 0, .string ⟨#[]⟩, .int .i64 0, .int .i64 0, .slice none 0 0, .int .i64 0, .int .i64 0, .int .i64 0], .bool false]) (by simp [results, Tryz.results23, go_sem, s0, s1, s2, s3, s4, s5, s6, s7]) rfl ⟨none, 0, by rw [← HRR.out]; rfl, by rw [← HRR.out]; exact World.ownsRow_nil _ _ _ _, HQ3.out.bel.trans (hu.toBelow HQ3.out.bel.size (fun k e => by omega))⟩
        | true =>
          have HD : Hid ((if rdD st2 = true then (0 : Int) else 3) = 0) := Lib.hid (by rw [hd]; rfl)
          rw [hd] at HRR
          simp only [if_true] at HRR
          clear hd
          go_wp2_with (first | (go_at_call 52; refine (HCL.out).mono ?_; rintro _ w3 ⟨rfl, hq3⟩; obtain ⟨⟨z0, z1, z2, z3, z4, z5, z6, z7⟩, fz⟩ := hq3.cells; have fz0 := fz 0; have fz1 := fz 1; have fz2 := fz 2; have fz3 := fz 3; have fz4 := fz 4; have fz5 := fz 5; have fz6 := fz 6; have fz7 := fz 7; have HQ3 := Lib.hid hq3; clear hq3 fz) | (go_at_call 55; refine (BrDone_any HQ3.out.rdr).mono ?_; rintro _ w4 ⟨rfl, rfl⟩; rw [HD.out]))
          obtain ⟨hz, hu⟩ := set8 HQ3.out.box (.int .u8 (q.kind.toNat : Int)) (.string (bs q.group)) (.int .i64 q.gen) (.int .i64 q.parts) (.slice ma q.members.length mc) (.int .i64 q.part) (.int .i64 q.off) (.int .i64 q.code)
          have s0 := cells_of hz 0 _ rfl
          have s1 := cells_of hz 1 _ rfl
          have s2 := cells_of hz 2 _ rfl
          have s3 := cells_of hz 3 _ rfl
          have s4 := cells_of hz 4 _ rfl
          have s5 := cells_of hz 5 _ rfl
          have s6 := cells_of hz 6 _ rfl
          have s7 := cells_of hz 7 _ rfl
          try simp only [jump_ret]
          try rw [Exit.noGoto_ret]
          exact bodyPost_ret (v := .tuple #[.agg #[.int .u8 (q.kind.toNat : Int), .string (bs q.group), .int .i64 q.gen, .int .i64 q.parts, .slice ma q.members.length mc, .int .i64 q.part, .int .i64 q.off, .int .i64 q.code], .bool true]) (by simp [results, Tryz.results23, go_sem, s0, s1, s2, s3, s4, s5, s6, s7]) rfl ⟨ma, mc, by rw [← HRR.out], by rw [← HRR.out]; exact owns_upd HQ3.out.mem hu (fun g hg e => (HQ3.out.memne g hg).1 e), HQ3.out.bel.trans (hu.toBelow HQ3.out.bel.size (fun k e => by omega))⟩
end Go.Proofs.YtdchjepahgecgaaGreatDoor
