/- The walk of the reference's Read of layer 11. Printed by gen_rrr.py. -/
import Derived.Test.YtdchjepahgecgaaGreatDoorMq45
import Derived.Test.YtdchjepahgecgaaGreatDoorMq46
import Derived.Test.YtdchjepahgecgaaGreatDoorMq24
import Derived.Deep.CutBlock
namespace Go.Proofs.YtdchjepahgecgaaGreatDoor
open Go.RowKit

theorem owns_cells {w : World} {N e size : Nat} {v : Value} {n : Nat} {xs : List Value} (h : w.ownsRow N e size v n xs) : ∀ g, v.ownBlock = some g → ∃ cur, w.heap[g]? = some (.cells cur e (0, 0)) := by
  intro g hg
  rcases h.2 with ⟨h0, _⟩ | ⟨g', cap, cur, hv, _, h3, _⟩
  · rw [h0] at hg; cases hg
  · rw [hv] at hg
    simp only [Value.ownBlock, Option.some.injEq] at hg
    subst hg
    exact ⟨cur, h3⟩

/-- What a record says, as the document's answer has it. -/
structure Sd where
  kind : Int
  group : List UInt8
  gen : Int
  parts : Int
  members : List (List UInt8)
  part : Int
  off : Int
  code : Int
def Sd.zero : Sd := ⟨0, [], 0, 0, [], 0, 0, 0⟩
def kindN (k : UInt8) : Int := if k = 116 then 1 else if k = 99 then 2 else if k = 110 then 3 else 0
def sdOf (q : Wd) : Sd := ⟨kindN q.kind, q.group, q.gen, q.parts, q.members, q.part, q.off, q.code⟩
theorem sdOf_zero : sdOf .zero = .zero := rfl
abbrev sdC (q : Sd) (ma : Option Addr) (mc : Nat) : Array Value := #[.int .i64 q.kind, .string (bs q.group), .int .i64 q.gen, .int .i64 q.parts, .slice ma q.members.length mc, .int .i64 q.part, .int .i64 q.off, .int .i64 q.code]
abbrev sdZ : Array Value := #[.int .i64 0, .string ⟨#[]⟩, .int .i64 0, .int .i64 0, .slice none 0 0, .int .i64 0, .int .i64 0, .int .i64 0]
abbrev rcC (off : Int) (key val : List UInt8) : Array Value := #[.int .i64 off, .string (bs key), .string (bs val), .bool false]

/-- The record, the result, none, the reader, what is said. -/
structure RsW (w W : World) (off : Int) (key val : List UInt8) (sb : Nat) (q : Sd) (ma : Option Addr) (mc : Nat) (st : RS) : Prop where
  rcd : W.heap[w.heap.size]? = some (.cells (rcC off key val) 28 (0, 0))
  res : W.heap[w.heap.size + 1]? = some (.cells sdZ 68 (0, 0))
  non : W.heap[w.heap.size + 1 + 1]? = some (.cells sdZ 68 (0, 0))
  rdr : RfSt W (w.heap.size + 1 + 1 + 1) val st
  box : W.heap[sb]? = some (.cells (sdC q ma mc) 68 (0, 0))
  mem : W.ownsRow w.heap.size 9 1 (.slice ma q.members.length mc) q.members.length (strCells q.members)
  bel : Below w.heap.size w W
  low : w.heap.size + 4 ≤ sb

theorem RfSt.lt {w : World} {p : Nat} {S : List UInt8} {st : RS} (h : RfSt w p S st) : p < w.heap.size := by
  obtain ⟨k, -, -, h⟩ := h
  exact h.lt
theorem RfSt.block {w w' : World} {p : Nat} {S : List UInt8} {st : RS} (h : RfSt w p S st) (he : w'.heap[p]? = w.heap[p]?) : RfSt w' p S st := by
  obtain ⟨k, h1, h2, h3⟩ := h
  exact ⟨k, h1, h2, he.trans h3⟩

theorem RsW.memne {w : World} {W : World} {off : Int} {key : List UInt8} {val : List UInt8} {sb : Nat} {q : Sd} {ma : Option Addr} {mc : Nat} {st : RS} (h : RsW w W off key val sb q ma mc st) : ∀ g, (Value.slice ma q.members.length mc).ownBlock = some g → g ≠ w.heap.size ∧ g ≠ w.heap.size + 1 ∧ g ≠ w.heap.size + 1 + 1 ∧ g ≠ w.heap.size + 1 + 1 + 1 ∧ g ≠ sb := by
  intro g hg
  obtain ⟨cur, hc⟩ := owns_cells h.mem g hg
  obtain ⟨k, -, -, hk⟩ := h.rdr
  refine ⟨fun e => ?_, fun e => ?_, fun e => ?_, fun e => ?_, fun e => ?_⟩
  · rw [e, h.rcd] at hc; simp at hc
  · rw [e, h.res] at hc; simp at hc
  · rw [e, h.non] at hc; simp at hc
  · unfold RfAt at hk; rw [e, hk] at hc; simp at hc
  · rw [e, h.box] at hc; simp at hc

theorem RsW.sblt {w : World} {W : World} {off : Int} {key : List UInt8} {val : List UInt8} {sb : Nat} {q : Sd} {ma : Option Addr} {mc : Nat} {st : RS} (h : RsW w W off key val sb q ma mc st) : sb < W.heap.size := (Array.getElem?_eq_some_iff.1 h.box).1
theorem RsW.step {w : World} {W : World} {W' : World} {off : Int} {key : List UInt8} {val : List UInt8} {sb : Nat} {q : Sd} {ma : Option Addr} {mc : Nat} {st : RS} {st' : RS} (h : RsW w W off key val sb q ma mc st) (hu : Upd (fun k => k = w.heap.size + 1 + 1 + 1) W W') (hr : RfSt W' (w.heap.size + 1 + 1 + 1) val st') : RsW w W' off key val sb q ma mc st' := by
  have hl := h.sblt
  have h0 := h.low
  exact ⟨(hu.block _ (by omega) (by omega)).trans h.rcd, (hu.block _ (by omega) (by omega)).trans h.res, (hu.block _ (by omega) (by omega)).trans h.non, hr, (hu.block _ hl (by omega)).trans h.box,
    owns_upd h.mem hu (fun g hg e => (h.memne g hg).2.2.2.1 e), h.bel.trans (hu.toBelow h.bel.size (fun k e => by omega)), h.low⟩

theorem RsW.below {w : World} {W : World} {W' : World} {off : Int} {key : List UInt8} {val : List UInt8} {sb : Nat} {q : Sd} {ma : Option Addr} {mc : Nat} {st : RS} (h : RsW w W off key val sb q ma mc st) (hb : Below W.heap.size W W') : RsW w W' off key val sb q ma mc st := by
  have hl := h.sblt
  have h0 := h.low
  exact ⟨(hb.block _ (by omega)).trans h.rcd, (hb.block _ (by omega)).trans h.res, (hb.block _ (by omega)).trans h.non, h.rdr.block (hb.block _ (by omega)), (hb.block _ hl).trans h.box,
    owns_upd h.mem (Upd.of_below (F := fun _ => False) hb) (fun _ _ h => h), h.bel.trans (hb.mono h.bel.size), h.low⟩

/-- A word of what is said is written. -/
theorem RsW.put {w : World} {W : World} {off : Int} {key : List UInt8} {val : List UInt8} {sb : Nat} {q : Sd} {ma : Option Addr} {mc : Nat} {st : RS} (h : RsW w W off key val sb q ma mc st) {q' : Sd} (j : Nat) (u : Value) (hm : q'.members = q.members) (he : (sdC q ma mc).setIfInBounds j u = sdC q' ma mc) : RsW w (W.setCell ⟨sb, j, none⟩ u) off key val sb q' ma mc st := by
  have hl := h.sblt
  have h0 := h.low
  have hu := upd_set1 W sb j u
  refine ⟨(hu.block _ (by omega) (by omega)).trans h.rcd, (hu.block _ (by omega) (by omega)).trans h.res, (hu.block _ (by omega) (by omega)).trans h.non, h.rdr.block (hu.block _ (by omega) (by omega)), ?_, ?_, h.bel.trans (hu.toBelow h.bel.size (fun k e => by omega)), h.low⟩
  · rw [← he]; exact setCell_same h.box
  · rw [hm]; exact owns_upd h.mem hu (fun g hg e => (h.memne g hg).2.2.2.2 e)

theorem RsW.cells {w : World} {W : World} {off : Int} {key : List UInt8} {val : List UInt8} {sb : Nat} {q : Sd} {ma : Option Addr} {mc : Nat} {st : RS} (h : RsW w W off key val sb q ma mc st) :
    (W.cell? ⟨sb, 0, none⟩ = some (.int .i64 q.kind) ∧ W.cell? ⟨sb, 1, none⟩ = some (.string (bs q.group)) ∧ W.cell? ⟨sb, 2, none⟩ = some (.int .i64 q.gen) ∧ W.cell? ⟨sb, 3, none⟩ = some (.int .i64 q.parts) ∧
      W.cell? ⟨sb, 4, none⟩ = some (.slice ma q.members.length mc) ∧ W.cell? ⟨sb, 5, none⟩ = some (.int .i64 q.part) ∧ W.cell? ⟨sb, 6, none⟩ = some (.int .i64 q.off) ∧ W.cell? ⟨sb, 7, none⟩ = some (.int .i64 q.code)) ∧
    ∀ j, W.frozen? ⟨sb, j, none⟩ = false :=
  ⟨⟨cells_of h.box 0 _ rfl, cells_of h.box 1 _ rfl, cells_of h.box 2 _ rfl, cells_of h.box 3 _ rfl, cells_of h.box 4 _ rfl, cells_of h.box 5 _ rfl, cells_of h.box 6 _ rfl, cells_of h.box 7 _ rfl⟩, fun _j => frozen_of h.box⟩

/-- None is read; the result can be written. -/
theorem RsW.nones {w : World} {W : World} {off : Int} {key : List UInt8} {val : List UInt8} {sb : Nat} {q : Sd} {ma : Option Addr} {mc : Nat} {st : RS} (h : RsW w W off key val sb q ma mc st) :
    (W.cell? ⟨w.heap.size + 1 + 1, 0, none⟩ = some (.int .i64 0) ∧ W.cell? ⟨w.heap.size + 1 + 1, 1, none⟩ = some (.string ⟨#[]⟩) ∧ W.cell? ⟨w.heap.size + 1 + 1, 2, none⟩ = some (.int .i64 0) ∧ W.cell? ⟨w.heap.size + 1 + 1, 3, none⟩ = some (.int .i64 0) ∧
      W.cell? ⟨w.heap.size + 1 + 1, 4, none⟩ = some (.slice none 0 0) ∧ W.cell? ⟨w.heap.size + 1 + 1, 5, none⟩ = some (.int .i64 0) ∧ W.cell? ⟨w.heap.size + 1 + 1, 6, none⟩ = some (.int .i64 0) ∧ W.cell? ⟨w.heap.size + 1 + 1, 7, none⟩ = some (.int .i64 0)) ∧
    (W.frozen? ⟨w.heap.size + 1, 0, none⟩ = false ∧ W.frozen? ⟨w.heap.size + 1, 1, none⟩ = false ∧ W.frozen? ⟨w.heap.size + 1, 2, none⟩ = false ∧ W.frozen? ⟨w.heap.size + 1, 3, none⟩ = false ∧ W.frozen? ⟨w.heap.size + 1, 4, none⟩ = false ∧ W.frozen? ⟨w.heap.size + 1, 5, none⟩ = false ∧ W.frozen? ⟨w.heap.size + 1, 6, none⟩ = false ∧ W.frozen? ⟨w.heap.size + 1, 7, none⟩ = false) ∧
    (W.cell? ⟨w.heap.size + 1, 0, none⟩ = some (.int .i64 0) ∧ W.cell? ⟨w.heap.size + 1, 1, none⟩ = some (.string ⟨#[]⟩) ∧ W.cell? ⟨w.heap.size + 1, 2, none⟩ = some (.int .i64 0) ∧ W.cell? ⟨w.heap.size + 1, 3, none⟩ = some (.int .i64 0) ∧
      W.cell? ⟨w.heap.size + 1, 4, none⟩ = some (.slice none 0 0) ∧ W.cell? ⟨w.heap.size + 1, 5, none⟩ = some (.int .i64 0) ∧ W.cell? ⟨w.heap.size + 1, 6, none⟩ = some (.int .i64 0) ∧ W.cell? ⟨w.heap.size + 1, 7, none⟩ = some (.int .i64 0)) :=
  ⟨⟨cells_of h.non 0 _ rfl, cells_of h.non 1 _ rfl, cells_of h.non 2 _ rfl, cells_of h.non 3 _ rfl, cells_of h.non 4 _ rfl, cells_of h.non 5 _ rfl, cells_of h.non 6 _ rfl, cells_of h.non 7 _ rfl⟩,
    ⟨frozen_of h.res, frozen_of h.res, frozen_of h.res, frozen_of h.res, frozen_of h.res, frozen_of h.res, frozen_of h.res, frozen_of h.res⟩,
    ⟨cells_of h.res 0 _ rfl, cells_of h.res 1 _ rfl, cells_of h.res 2 _ rfl, cells_of h.res 3 _ rfl, cells_of h.res 4 _ rfl, cells_of h.res 5 _ rfl, cells_of h.res 6 _ rfl, cells_of h.res 7 _ rfl⟩⟩

theorem RsW.int {w : World} {W : World} {off : Int} {key : List UInt8} {val : List UInt8} {sb : Nat} {q : Sd} {ma : Option Addr} {mc : Nat} {st : RS} (h : RsW w W off key val sb q ma mc st) (hs : val.length ≤ 100000) : Calls Tryz.prog 66 #[.pointer (some ⟨w.heap.size + 1 + 1 + 1, 0, none⟩)] W fun e w' => e = .returned (.int .i64 (rdI st).1) ∧ RsW w w' off key val sb q ma mc (rdI st).2 := by
  refine (rdI_st h.rdr (by omega)).mono ?_
  rintro e w' ⟨rfl, hr, hu⟩
  exact ⟨rfl, h.step hu hr⟩
theorem RsW.open {w : World} {W : World} {off : Int} {key : List UInt8} {val : List UInt8} {sb : Nat} {q : Sd} {ma : Option Addr} {mc : Nat} {st : RS} (h : RsW w W off key val sb q ma mc st) (hs : val.length ≤ 100000) : Calls Tryz.prog 65 #[.pointer (some ⟨w.heap.size + 1 + 1 + 1, 0, none⟩)] W fun e w' => e = .returned (.tuple #[]) ∧ RsW w w' off key val sb q ma mc (rdS 108 st) := by
  refine (RrOpen_any h.rdr (by omega)).mono ?_
  rintro e w' ⟨rfl, hr, hu⟩
  exact ⟨rfl, h.step hu hr⟩
theorem RsW.close {w : World} {W : World} {off : Int} {key : List UInt8} {val : List UInt8} {sb : Nat} {q : Sd} {ma : Option Addr} {mc : Nat} {st : RS} (h : RsW w W off key val sb q ma mc st) (hs : val.length ≤ 100000) : Calls Tryz.prog 69 #[.pointer (some ⟨w.heap.size + 1 + 1 + 1, 0, none⟩)] W fun e w' => e = .returned (.tuple #[]) ∧ RsW w w' off key val sb q ma mc (rdS 101 st) := by
  refine (RrClose_any h.rdr (by omega)).mono ?_
  rintro e w' ⟨rfl, hr, hu⟩
  exact ⟨rfl, h.step hu hr⟩
theorem RsW.text {w : World} {W : World} {off : Int} {key : List UInt8} {val : List UInt8} {sb : Nat} {q : Sd} {ma : Option Addr} {mc : Nat} {st : RS} (h : RsW w W off key val sb q ma mc st) (hs : val.length ≤ 100000) : Calls Tryz.prog 68 #[.pointer (some ⟨w.heap.size + 1 + 1 + 1, 0, none⟩), .int .i64 8] W fun e w' => e = .returned (.string (bs (rdT 8 st).1)) ∧ RsW w w' off key val sb q ma mc (rdT 8 st).2 := by
  refine (RrText_any (most := 8) (by decide) h.rdr (by omega)).mono ?_
  rintro e w' ⟨rfl, hr, hu⟩
  exact ⟨rfl, h.step hu hr⟩
theorem RsW.more {w : World} {W : World} {off : Int} {key : List UInt8} {val : List UInt8} {sb : Nat} {q : Sd} {ma : Option Addr} {mc : Nat} {st : RS} (h : RsW w W off key val sb q ma mc st) (hs : val.length ≤ 100000) : Calls Tryz.prog 67 #[.pointer (some ⟨w.heap.size + 1 + 1 + 1, 0, none⟩)] W fun e w' => e = .returned (.bool (rdM st)) ∧ RsW w w' off key val sb q ma mc st := by
  refine (RrMore_any h.rdr (by omega)).mono ?_
  rintro e w' ⟨rfl, hb, hr⟩
  exact ⟨rfl, h.below hb⟩
theorem RsW.done {w : World} {W : World} {off : Int} {key : List UInt8} {val : List UInt8} {sb : Nat} {q : Sd} {ma : Option Addr} {mc : Nat} {st : RS} (h : RsW w W off key val sb q ma mc st) (hs : val.length ≤ 100000) : Calls Tryz.prog 72 #[.pointer (some ⟨w.heap.size + 1 + 1 + 1, 0, none⟩)] W fun e w' => e = .returned (.int .i64 (if rdD st = true then 0 else 3)) ∧ RsW w w' off key val sb q ma mc st := by
  refine (RrDone_any h.rdr (by omega)).mono ?_
  rintro e w' ⟨rfl, hb⟩
  exact ⟨rfl, h.below hb⟩

/-- The members' row has grown, and is written. -/
theorem RsW.grow {w : World} {W : World} {W' : World} {off : Int} {key : List UInt8} {val : List UInt8} {sb : Nat} {q : Sd} {ma : Option Addr} {mc : Nat} {st : RS} (h : RsW w W off key val sb q ma mc st) {ma' : Option Addr} {mc' : Nat} (hu : Upd (fun k => some k = (Value.slice ma q.members.length mc).ownBlock) W W') (M : List (List UInt8))
    (hown : W'.ownsRow w.heap.size 9 1 (.slice ma' M.length mc') M.length (strCells M)) :
    (W'.cell? ⟨sb, 4, none⟩ = some (.slice ma q.members.length mc) ∧ W'.frozen? ⟨sb, 4, none⟩ = false) ∧ RsW w (W'.setCell ⟨sb, 4, none⟩ (.slice ma' M.length mc')) off key val sb ⟨q.kind, q.group, q.gen, q.parts, M, q.part, q.off, q.code⟩ ma' mc' st := by
  have hl := h.sblt
  have h0 := h.low
  have hne : ∀ k, k = w.heap.size ∨ k = w.heap.size + 1 ∨ k = w.heap.size + 1 + 1 ∨ k = w.heap.size + 1 + 1 + 1 ∨ k = sb → ¬ some k = (Value.slice ma q.members.length mc).ownBlock := by
    intro k hk e
    obtain ⟨a1, a2, a3, a4, a5⟩ := h.memne k e.symm
    omega
  have hbx := (hu.block _ hl (hne _ (by omega))).trans h.box
  have hs := upd_set1 W' sb 4 (.slice ma' M.length mc')
  have hz := hu.size
  have hne2 : ∀ g, (Value.slice ma' M.length mc').ownBlock = some g → g ≠ sb := by
    intro g hg e
    obtain ⟨cur, hc⟩ := owns_cells hown g hg
    rw [e, hbx] at hc; simp at hc
  have hbl : Below w.heap.size w W' := h.bel.trans (hu.toBelow h.bel.size (fun k e => (owns_lt h.mem k e.symm).1))
  have hb : ∀ k, k < W.heap.size → k ≠ sb → (k = w.heap.size ∨ k = w.heap.size + 1 ∨ k = w.heap.size + 1 + 1 ∨ k = w.heap.size + 1 + 1 + 1 ∨ k = sb) → (W'.setCell ⟨sb, 4, none⟩ (.slice ma' M.length mc')).heap[k]? = W.heap[k]? := fun k hk hks hk2 => (hs.block k (by omega) hks).trans (hu.block k hk (hne k hk2))
  exact ⟨⟨cells_of hbx 4 _ rfl, frozen_of hbx⟩, (hb _ (by omega) (by omega) (by omega)).trans h.rcd, (hb _ (by omega) (by omega) (by omega)).trans h.res, (hb _ (by omega) (by omega) (by omega)).trans h.non, h.rdr.block (hb _ (by omega) (by omega) (by omega)),
    setCell_same (o := 4) (v := .slice ma' M.length mc') hbx, owns_upd hown hs (fun g hg e => hne2 g hg e), hbl.trans (hs.toBelow hbl.size (fun k e => by omega)), h.low⟩

/-- What Read answers. -/
def SaidTo (w : World) (q : Sd) (e : Ending) (w' : World) : Prop :=
  ∃ (ma : Option Addr) (mc : Nat), e = .returned (.agg (sdC q ma mc)) ∧ w'.ownsRow w.heap.size 9 1 (.slice ma q.members.length mc) q.members.length (strCells q.members) ∧ Below w.heap.size w w'

/-- None is the result. -/
theorem RsW.ret0 {w : World} {W : World} {off : Int} {key : List UInt8} {val : List UInt8} {sb : Nat} {q : Sd} {ma : Option Addr} {mc : Nat} {st : RS} (h : RsW w W off key val sb q ma mc st) : ((((((((W.setCell ⟨w.heap.size + 1, 0, none⟩ (.int .i64 0)).setCell ⟨w.heap.size + 1, 1, none⟩ (.string ⟨#[]⟩)).setCell ⟨w.heap.size + 1, 2, none⟩ (.int .i64 0)).setCell ⟨w.heap.size + 1, 3, none⟩ (.int .i64 0)).setCell ⟨w.heap.size + 1, 4, none⟩ (.slice none 0 0)).setCell ⟨w.heap.size + 1, 5, none⟩ (.int .i64 0)).setCell ⟨w.heap.size + 1, 6, none⟩ (.int .i64 0)).setCell ⟨w.heap.size + 1, 7, none⟩ (.int .i64 0)).heap[w.heap.size + 1]? = some (.cells sdZ 68 (0, 0)) ∧
    Below w.heap.size w ((((((((W.setCell ⟨w.heap.size + 1, 0, none⟩ (.int .i64 0)).setCell ⟨w.heap.size + 1, 1, none⟩ (.string ⟨#[]⟩)).setCell ⟨w.heap.size + 1, 2, none⟩ (.int .i64 0)).setCell ⟨w.heap.size + 1, 3, none⟩ (.int .i64 0)).setCell ⟨w.heap.size + 1, 4, none⟩ (.slice none 0 0)).setCell ⟨w.heap.size + 1, 5, none⟩ (.int .i64 0)).setCell ⟨w.heap.size + 1, 6, none⟩ (.int .i64 0)).setCell ⟨w.heap.size + 1, 7, none⟩ (.int .i64 0)) := by
  obtain ⟨hz, hu⟩ := set8 h.res (.int .i64 0) (.string ⟨#[]⟩) (.int .i64 0) (.int .i64 0) (.slice none 0 0) (.int .i64 0) (.int .i64 0) (.int .i64 0)
  exact ⟨hz, h.bel.trans (hu.toBelow h.bel.size (fun k e => by omega))⟩

theorem many_grows {α : Type} {step : RS → α × RS} {ok : Nat → Bool} : ∀ (f : Nat) (st : RS) (acc : List α), acc.length ≤ (many step ok f st acc).1.length
  | 0, st, acc => by simp [many]
  | f + 1, st, acc => by
    rw [many]
    split
    · have := many_grows (step := step) (ok := ok) f (step st).2 (acc ++ [(step st).1])
      simp at this
      omega
    · exact Nat.le_refl _

theorem goodB_long {l : List (List UInt8)} (h : 4 < l.length) : goodB l = false := by
  have : decide (l.length ≤ 4) = false := decide_eq_false (by omega)
  simp [goodB, this]

set_option maxRecDepth 100000 in
set_option maxHeartbeats 8000000 in
theorem R11Read_any {w : World} (c : UInt8) (g val : List UInt8) (off : Int) (hs : val.length ≤ 100000) (hg : g.length ≤ 100000) : Calls Tryz.prog 29 #[.agg #[.int .i64 off, .string (bs (c :: g)), .string (bs val), .bool false]] w (SaidTo w (sdOf (readP (c :: g) val false).1)) := by
  obtain ⟨st, hst⟩ : ∃ st, rdS 108 (val, false) = st := ⟨_, rfl⟩
  have hfu : fuel st ≤ 200000 := by
    rw [← hst]
    have h1 := rdS_le 108 (val, false)
    have h2 : fuel (val, false) = val.length + 1 := rfl
    omega
  have hP : (readP (c :: g) val false).1 = if ((rdBody c g st).2.1 && rdD (rdS 101 (rdBody c g st).2.2)) = true then (rdBody c g st).1 else .zero := by
    simp only [readP, hst, Bool.false_eq_true, if_false]
    split <;> rfl
  rw [hP]
  clear hP
  obtain ⟨R, hR⟩ : ∃ R, sdOf (if ((rdBody c g st).2.1 && rdD (rdS 101 (rdBody c g st).2.2)) = true then (rdBody c g st).1 else .zero) = R := ⟨_, rfl⟩
  rw [hR]
  have hR0 : (rdBody c g st).2.1 = false → R = .zero := by
    intro h
    rw [← hR, h]
    rfl
  have HRR := Lib.hid hR
  have HR0 := Lib.hid hR0
  clear hR hR0
  have e0 : ¬ (bs (c :: g)).toList = [] := by rw [bs_toList]; simp
  have e0' : (bs (c :: g)).toList.isEmpty = false := by rw [bs_toList]; rfl
  have hz : (bs (c :: g)).size = g.length + 1 := by rw [bs_size]; simp
  have hz1 : (0 : Int) < ((bs (c :: g)).size : Int) := by rw [hz]; omega
  have hz2 : (1 : Int) ≤ ((bs (c :: g)).size : Int) := by rw [hz]; omega
  have hb0 : ∀ h, (bs (c :: g))[0]'h = c := fun h => by rw [bs_get]; rfl
  have hex : (bs (c :: g)).extract 1 (g.length + 1) = bs g := by rw [bs_extract]; simp
  have HS := Lib.hid hs
  obtain ⟨wa, hwa⟩ : ∃ wa, wa = (((w.alloc (.cells (rcC off (c :: g) val) 28)).alloc (.cells sdZ 68)).alloc (.cells sdZ 68)).alloc (.cells #[.string (bs val), .int .i64 0, .bool false] 105) := ⟨_, rfl⟩
  have hsa : wa.heap.size = w.heap.size + 4 := by rw [hwa]; simp
  have hba : Below w.heap.size w wa := by rw [hwa]; exact (below_alloc3 _ _ _ _).alloc (by simp; omega) _
  have hX : wa.heap[w.heap.size]? = some (.cells (rcC off (c :: g) val) 28 (0, 0)) := by
    rw [hwa, Below.heap_alloc _ _ _ (by first | (simp; done) | (simp; omega)), Below.heap_alloc _ _ _ (by first | (simp; done) | (simp; omega)), Below.heap_alloc _ _ _ (by simp)]; exact heap_alloc_new _ _
  have hY : wa.heap[w.heap.size + 1]? = some (.cells sdZ 68 (0, 0)) := by
    rw [hwa, Below.heap_alloc _ _ _ (by first | (simp; done) | (simp; omega)), Below.heap_alloc _ _ _ (by simp)]; exact heap_new1 _ _ _
  have hZ : wa.heap[w.heap.size + 1 + 1]? = some (.cells sdZ 68 (0, 0)) := by
    rw [hwa, Below.heap_alloc _ _ _ (by simp)]; exact heap_new2 _ _ _ _
  have hQ : wa.heap[w.heap.size + 1 + 1 + 1]? = some (.cells #[.string (bs val), .int .i64 0, .bool false] 105 (0, 0)) := by
    rw [hwa]
    have := heap_alloc_new (((w.alloc (.cells (rcC off (c :: g) val) 28)).alloc (.cells sdZ 68)).alloc (.cells sdZ 68)) (.cells #[.string (bs val), .int .i64 0, .bool false] 105)
    simpa using this
  have hrf : RfSt wa (w.heap.size + 1 + 1 + 1) val (val, false) := ⟨0, Nat.zero_le _, rfl, hQ⟩
  have hop : Calls Tryz.prog 65 #[.pointer (some ⟨w.heap.size + 1 + 1 + 1, 0, none⟩)] wa fun e w' => e = .returned (.tuple #[]) ∧ RsW w (w'.alloc (.cells sdZ 68)) off (c :: g) val w'.heap.size .zero none 0 st := by
    refine (RrOpen_any hrf (by omega)).mono ?_
    rintro e w' ⟨rfl, hr, hu⟩
    rw [hst] at hr
    have hsz := hu.size
    have hb : ∀ k, k < wa.heap.size → k ≠ w.heap.size + 1 + 1 + 1 → (w'.alloc (.cells sdZ 68)).heap[k]? = wa.heap[k]? := fun k hk hne => (Below.heap_alloc _ _ _ (by omega)).trans (hu.block k hk hne)
    exact ⟨rfl, (hb _ (by omega) (by omega)).trans hX, (hb _ (by omega) (by omega)).trans hY, (hb _ (by omega) (by omega)).trans hZ, hr.block (Below.heap_alloc _ _ _ (by omega)), heap_alloc_new _ _, World.ownsRow_nil _ _ _ _,
      hba.trans ((hu.toBelow (by omega) (fun k e => by omega)).trans ((below_alloc w' _).mono (by omega))), by omega⟩
  have x1 := cells_of hX 1 _ rfl
  have x3 := cells_of hX 3 _ rfl
  have HOP := Lib.hid hop
  have HCL := Lib.hid (And.intro hX hwa)
  clear hX hY hZ hQ hrf hop hba hsa hst
  go_enter Tryz.func29, Tryz.ntmps29
  go_upto_region 5 with fail
  rw [← HCL.out.2]
  clear hwa HCL
  go_upto_region 7 with (first | (go_at_call 65; refine HOP.out.mono ?_; rintro _ w1 ⟨rfl, hr1⟩))
  obtain ⟨sb, hsb⟩ : ∃ sb, w1.heap.size = sb := ⟨_, rfl⟩
  rw [hsb] at hr1 ⊢
  obtain ⟨wb, hwb⟩ : ∃ wb, wb = w1.alloc (.cells sdZ 68) := ⟨_, rfl⟩
  rw [← hwb] at hr1 ⊢
  have hlow := hr1.low
  have n1 : ¬ sb = w.heap.size := by omega
  have n2 : ¬ sb = w.heap.size + 1 := by omega
  have n3 : ¬ sb = w.heap.size + 1 + 1 := by omega
  have n4 : ¬ sb = w.heap.size + 1 + 1 + 1 := by omega
  have m1 : ¬ w.heap.size = sb := by omega
  have m2 : ¬ w.heap.size + 1 = sb := by omega
  have m3 : ¬ w.heap.size + 1 + 1 = sb := by omega
  have m4 : ¬ w.heap.size + 1 + 1 + 1 = sb := by omega
  have y1 := cells_of hr1.rcd 1 _ rfl
  have HC := Lib.hid hr1
  clear hr1 hwb hsb hlow HOP x1 x3
  go_upto_block 0 with fail
  go_cut [] from 25 to 139 (fun wx => ∃ (q : Sd) (ma : Option Addr) (mc : Nat), RsW w wx off (c :: g) val sb q ma mc (rdBody c g st).2.2 ∧ (rdBody c g st).2.1 = true ∧ q = sdOf (rdBody c g st).1)
  case first =>
    clear HRR
    have hgl : g.length ≤ 100000 := hg
    have hsC := HC.out
    by_cases h1 : c = 116
    · subst h1
      have hb : rdBody 116 g st = rdTurn g st := by simp [rdBody]
      have HB := Lib.hid hb
      clear hb
      obtain ⟨a1, ha1⟩ : ∃ a1, rdI st = a1 := ⟨_, rfl⟩
      obtain ⟨a2, ha2⟩ : ∃ a2, rdI a1.2 = a2 := ⟨_, rfl⟩
      obtain ⟨a3, ha3⟩ : ∃ a3, rdS 108 a2.2 = a3 := ⟨_, rfl⟩
      have hi1 : ∀ W q ma mc, RsW w W off (116 :: g) val sb q ma mc st → Calls Tryz.prog 66 #[.pointer (some ⟨w.heap.size + 1 + 1 + 1, 0, none⟩)] W fun e w' => e = .returned (.int .i64 a1.1) ∧ RsW w w' off (116 :: g) val sb q ma mc a1.2 := fun W q ma mc h => by rw [← ha1]; exact h.int HS.out
      have hi2 : ∀ W q ma mc, RsW w W off (116 :: g) val sb q ma mc a1.2 → Calls Tryz.prog 66 #[.pointer (some ⟨w.heap.size + 1 + 1 + 1, 0, none⟩)] W fun e w' => e = .returned (.int .i64 a2.1) ∧ RsW w w' off (116 :: g) val sb q ma mc a2.2 := fun W q ma mc h => by rw [← ha2]; exact h.int HS.out
      have hi3 : ∀ W q ma mc, RsW w W off (116 :: g) val sb q ma mc a2.2 → Calls Tryz.prog 65 #[.pointer (some ⟨w.heap.size + 1 + 1 + 1, 0, none⟩)] W fun e w' => e = .returned (.tuple #[]) ∧ RsW w w' off (116 :: g) val sb q ma mc a3 := fun W q ma mc h => by rw [← ha3]; exact h.open HS.out
      have HI1 := Lib.hid hi1
      have HI2 := Lib.hid hi2
      have HI3 := Lib.hid hi3
      have HA := Lib.hid (And.intro ha1 (And.intro ha2 ha3))
      obtain ⟨⟨z0, z1, -, -, -, -, -, -⟩, fz⟩ := hsC.cells
      have fz0 := fz 0
      have fz1 := fz 1
      have HQ2 := Lib.hid ((hsC.put (q' := ⟨1, [], 0, 0, [], 0, 0, 0⟩) 0 (.int .i64 1) rfl rfl).put (q' := ⟨1, g, 0, 0, [], 0, 0, 0⟩) 1 (.string (bs g)) rfl rfl)
      clear hi1 hi2 hi3 ha1 ha2 ha3 hsC fz
      go_upto_block 1 with (first
        | (go_at_call 66; with_reducible refine (HI1.out _ _ _ _ HQ2.out).mono ?_; rintro _ w3 ⟨rfl, hq3⟩; obtain ⟨⟨-, -, z2, -, -, -, -, -⟩, fz⟩ := hq3.cells; have fz2 := fz 2; have HQ3 := Lib.hid (hq3.put (q' := ⟨1, g, a1.1, 0, [], 0, 0, 0⟩) 2 (.int .i64 a1.1) rfl rfl); clear hq3 fz)
        | (go_at_call 66; with_reducible refine (HI2.out _ _ _ _ HQ3.out).mono ?_; rintro _ w4 ⟨rfl, hq4⟩; obtain ⟨⟨-, -, -, z3, -, -, -, -⟩, fz⟩ := hq4.cells; have fz3 := fz 3; have HQ4 := Lib.hid (hq4.put (q' := ⟨1, g, a1.1, a2.1, [], 0, 0, 0⟩) 3 (.int .i64 a2.1) rfl rfl); clear hq4 fz)
        | (go_at_call 65; with_reducible refine (HI3.out _ _ _ _ HQ4.out).mono ?_; rintro _ w5 ⟨rfl, hq5⟩; have HQ5 := Lib.hid hq5; clear hq5))
      obtain ⟨M, hM⟩ : ∃ M, rdMs a3 = M := ⟨_, rfl⟩
      have HM := Lib.hid hM
      clear HI1 HI2 HI3 HQ2 HQ3 HQ4 z0 z1 z2 z3 fz0 fz1 fz2 fz3 hM y1
      go_cut [] from 41 to 55 (fun wx => ∃ (acc : List (List UInt8)) (ma : Option Addr) (mc : Nat) (s' : RS), RsW w wx off (116 :: g) val sb ⟨1, g, a1.1, a2.1, acc, 0, 0, 0⟩ ma mc s' ∧ (goodB acc = true → M = (acc, s')) ∧ (goodB acc = false → goodB M.1 = false))
      case first =>
        go_wp2
        go_loopg [] (fuel a3) (fun gk wr => ∃ (f : Nat) (acc : List (List UInt8)) (ma : Option Addr) (mc : Nat) (s' : RS), gk = fuel s' ∧ fuel s' ≤ f ∧ many (rdT 8) (fun _ => true) f s' acc = M ∧ acc.length ≤ 5 ∧ RsW w wr off (116 :: g) val sb ⟨1, g, a1.1, a2.1, acc, 0, 0, 0⟩ ma mc s')
        case atStart => exact ⟨fuel a3, [], none, 0, a3, rfl, Nat.le_refl _, HM.out, by simp, HQ5.out⟩
        case round =>
          obtain ⟨f, acc, ma, mc, s', rfl, hff, hmany, hlen, hq⟩ := hrel
          have HQ := Lib.hid hq
          have hmore := hq.more HS.out
          cases hrm : rdM s' with
          | true =>
            rw [hrm] at hmore
            have hlt := rdT_lt (most := 8) (by decide) (rdM_ok hrm)
            have HMO := Lib.hid hmore
            by_cases h5 : acc.length < 5
            · have i5 : (acc.length : Int) < 5 := by omega
              obtain ⟨f', hm1, hf'⟩ := many_go (ok := fun _ => true) (acc := acc) (fun st h => rdT_lt (most := 8) (by decide) h) hrm rfl hff
              rw [hm1] at hmany
              have HMA := Lib.hid (And.intro hmany (And.intro hf' hlt))
              clear hmore hm1 hf' hmany hrm hq hlt
              go_upto_region 16 with (first | (go_at_call 67; refine HMO.out.mono ?_; rintro _ w6 ⟨rfl, hq6⟩; have z46 := cells_of hq6.box 4 _ rfl; have HQ6 := Lib.hid hq6; clear hq6))
              have htx : ∀ W', RsW w W' off (116 :: g) val sb ⟨1, g, a1.1, a2.1, acc, 0, 0, 0⟩ ma mc s' → Calls Tryz.prog 68 #[.pointer (some ⟨w.heap.size + 1 + 1 + 1, 0, none⟩), .int .i64 8] W' fun e w' => e = .returned (.string (bs (rdT 8 s').1)) ∧ RsW w w' off (116 :: g) val sb ⟨1, g, a1.1, a2.1, acc, 0, 0, 0⟩ ma mc (rdT 8 s').2 := fun W' h => h.text HS.out
              have HTX := Lib.hid htx
              clear htx
              generalize (rdT 8 s').1 = t at *
              generalize (rdT 8 s').2 = s2 at *
              obtain ⟨i1, ki, kz0, kz1, kz2⟩ := info_parts info_Str
              go_region_law
                (first
                  | (refine step_append_lies _ (by rfl) _ _ _ (by rfl) w.heap.size 9 i1 _ 1 16 und_Strings ki kz0 kz1 kz2 rfl (by omega) (.slice ma acc.length mc) acc.length (strCells acc) (by rfl) (HQ7.out.mem.alloc _) ⟨w7.heap.size, 0, none⟩ 1 1 [.string (bs t)] (by rfl) (by rfl) (World.news_of_block (cs := #[.string (bs t)]) (t := 9) (fr := (0, 0)) (heap_alloc_new w7 _)) (by simp [Value.oneCell']) (by omega) ?_ ?_ ?_ _ rfl ?_; (unfold maxLen; omega); omega; (have hbz := HQ7.out.bel.size; (first | (simp only [World.size_alloc]; omega) | omega)); rintro g9 gcap9 w9 hown9 hgrow9 - hlt9; have hG := HQ7.out.grow (M := acc ++ [t]) (ma' := some ⟨g9, 0, none⟩) (mc' := gcap9) ((upd_alloc _ w7 _).trans (upd_grown hgrow9)) (by simpa [strCells] using hown9); obtain ⟨⟨c49, f49⟩, hR9⟩ := hG; have HR9 := Lib.hid hR9; clear hR9 hown9 hgrow9)
                  | (go_simp; go_at_call 68; refine (HTX.out _ (HQ6.out.below (Below.refl _ _).drew)).mono ?_; rintro e w7 ⟨rfl, hq7⟩; have z47 := cells_of hq7.box 4 _ rfl; have z47a : ∀ o, (w7.alloc o).cell? ⟨sb, 4, none⟩ = some (.slice ma acc.length mc) := (fun o => cells_of (hq7.below (below_alloc w7 o)).box 4 _ rfl); have HQ7 := Lib.hid hq7; clear hq7))
              all_goals
                go_wp2_with fail
                go_roundg (fuel s2)
                case measure => have := HMA.out.2.2; omega
                case rel =>
                  have h9 := HR9.out
                  have e : (acc ++ [t]).length = acc.length + 1 := by simp
                  rw [e] at h9
                  exact ⟨f', acc ++ [t], some ⟨g9, 0, none⟩, gcap9, s2, rfl, HMA.out.2.1, HMA.out.1, by rw [e]; omega, h9⟩
            · have i5 : ¬ (acc.length : Int) < 5 := by omega
              have hg1 : goodB acc = false := goodB_long (by omega)
              have hg2 : goodB M.1 = false := by
                rw [← hmany]
                exact goodB_long (by have := many_grows (step := rdT 8) (ok := fun _ => true) f s' acc; omega)
              have HG := Lib.hid (And.intro hg1 hg2)
              clear hmore hrm hq hlt hg1 hg2 hmany
              go_wp2_with (first | (go_at_call 67; refine HMO.out.mono ?_; rintro _ w6 ⟨rfl, hq6⟩; have z46 := cells_of hq6.box 4 _ rfl; have HQ6 := Lib.hid hq6; clear hq6))
              go_meet
              exact ⟨acc, ma, mc, s', HQ6.out, (fun h => by rw [HG.out.1] at h; cases h), fun _ => HG.out.2⟩
          | false =>
            rw [hrm] at hmore
            have hm0 := many_stop (step := rdT 8) (ok := fun _ => true) (acc := acc) f (.inl hrm)
            rw [hm0] at hmany
            have HMO := Lib.hid hmore
            have HMA := Lib.hid hmany
            clear hmore hrm hq hm0 hmany
            go_wp2_with (first | (go_at_call 67; refine HMO.out.mono ?_; rintro _ w6 ⟨rfl, hq6⟩; have HQ6 := Lib.hid hq6; clear hq6))
            go_meet
            exact ⟨acc, ma, mc, s', HQ6.out, fun _ => HMA.out.symm, fun h => by rw [← HMA.out]; exact h⟩
      case rest =>
        obtain ⟨acc, ma, mc, s', hq, hg1, hg2⟩ := hcut
        have hcl := hq.close HS.out
        have HG := Lib.hid (And.intro hg1 hg2)
        obtain ⟨bn, hbn⟩ : ∃ bn, nameB g = bn := ⟨_, rfl⟩
        obtain ⟨bg, hbg⟩ : ∃ bg, goodB acc = bg := ⟨_, rfl⟩
        have hname : ∀ W, Calls Tryz.prog 70 #[.string (bs g)] W fun e w' => e = .returned (.bool bn) ∧ w' = W := fun W => by rw [← hbn]; exact R10Name_any g W
        have hgood : ∀ W, Strs W (.slice ma acc.length mc) acc → Calls Tryz.prog 71 #[.slice ma acc.length mc] W fun e w' => e = .returned (.bool bg) ∧ Below W.heap.size W w' := fun W h => by rw [← hbg]; exact R10Good_any h
        have hT1 : (rdBody 116 g st).2.1 = (bn && (goodB M.1 && (decide (0 ≤ a2.1) && decide (a2.1 ≤ 4)))) := by
          have h1 := HM.out
          rw [HB.out]
          simp only [rdTurn, HA.out.1, HA.out.2.1, HA.out.2.2, h1, hbn]
        have hT2 : bg = true → goodB M.1 = true ∧ sdOf (rdBody 116 g st).1 = ⟨1, g, a1.1, a2.1, acc, 0, 0, 0⟩ ∧ (rdBody 116 g st).2.2 = rdS 101 s' := by
          intro hb
          have h1 := HM.out
          have h2 := HG.out.1 (hbg.trans hb)
          rw [HB.out]
          simp only [rdTurn, HA.out.1, HA.out.2.1, HA.out.2.2, h1]
          rw [h2]
          exact ⟨hbg.trans hb, rfl, rfl⟩
        have hT3 : bg = false → goodB M.1 = false := fun hb => HG.out.2 (hbg.trans hb)
        have HT := Lib.hid (And.intro hT1 (And.intro hT2 hT3))
        have HCL := Lib.hid hcl
        have HNAME := Lib.hid hname
        have HGOOD := Lib.hid hgood
        clear HG HB HA HM HQ5 HC hcl hname hgood hbn hbg hq hT1 hT2 hT3 hg1 hg2
        cases bn with
        | false =>
          have HRZ := Lib.hid (HR0.out (by rw [HT.out.1]; rfl))
          go_wp2_with (first | (go_at_call 69; refine (HCL.out).mono ?_; rintro _ w7 ⟨rfl, hq7⟩; obtain ⟨⟨z0, z1, z2, z3, z4, z5, z6, z7⟩, -⟩ := hq7.cells; obtain ⟨⟨n0, n1', n2', n3', n4', n5, n6, n7⟩, ⟨g0, g1, g2, g3, g4, g5, g6, g7⟩, ⟨r0, r1, r2, r3, r4, r5, r6, r7⟩⟩ := hq7.nones; have HQ7 := Lib.hid hq7; clear hq7) | (go_at_call 70; refine (HNAME.out _).mono ?_; rintro _ w8 ⟨rfl, rfl⟩))
          obtain ⟨hz0, hbl⟩ := HQ7.out.ret0
          have s0 := cells_of hz0 0 _ rfl
          have s1 := cells_of hz0 1 _ rfl
          have s2 := cells_of hz0 2 _ rfl
          have s3 := cells_of hz0 3 _ rfl
          have s4 := cells_of hz0 4 _ rfl
          have s5 := cells_of hz0 5 _ rfl
          have s6 := cells_of hz0 6 _ rfl
          have s7 := cells_of hz0 7 _ rfl
          exact bodyPost_ret (v := .agg sdZ) (by simp [results, Tryz.results29, go_sem, s0, s1, s2, s3, s4, s5, s6, s7]) rfl ⟨none, 0, by rw [HRZ.out]; rfl, by rw [HRZ.out]; exact World.ownsRow_nil _ _ _ _, hbl⟩
        | true =>
          cases bg with
          | false =>
            have HRZ := Lib.hid (HR0.out (by rw [HT.out.1, HT.out.2.2 rfl]; rfl))
            go_wp2_with (first | (go_at_call 69; refine (HCL.out).mono ?_; rintro _ w7 ⟨rfl, hq7⟩; obtain ⟨⟨z0, z1, z2, z3, z4, z5, z6, z7⟩, -⟩ := hq7.cells; have HQ7 := Lib.hid hq7; clear hq7) | (go_at_call 70; refine (HNAME.out _).mono ?_; rintro _ w8 ⟨rfl, rfl⟩) | (go_at_call 71; refine (HGOOD.out _ (Strs.of_owns HQ7.out.mem)).mono ?_; rintro _ w9 ⟨rfl, hb9⟩; have hq9 := HQ7.out.below hb9; obtain ⟨⟨n0, n1', n2', n3', n4', n5, n6, n7⟩, ⟨g0, g1, g2, g3, g4, g5, g6, g7⟩, ⟨r0, r1, r2, r3, r4, r5, r6, r7⟩⟩ := hq9.nones; have HQ9 := Lib.hid hq9; clear hq9 hb9))
            obtain ⟨hz0, hbl⟩ := HQ9.out.ret0
            have s0 := cells_of hz0 0 _ rfl
            have s1 := cells_of hz0 1 _ rfl
            have s2 := cells_of hz0 2 _ rfl
            have s3 := cells_of hz0 3 _ rfl
            have s4 := cells_of hz0 4 _ rfl
            have s5 := cells_of hz0 5 _ rfl
            have s6 := cells_of hz0 6 _ rfl
            have s7 := cells_of hz0 7 _ rfl
            exact bodyPost_ret (v := .agg sdZ) (by simp [results, Tryz.results29, go_sem, s0, s1, s2, s3, s4, s5, s6, s7]) rfl ⟨none, 0, by rw [HRZ.out]; rfl, by rw [HRZ.out]; exact World.ownsRow_nil _ _ _ _, hbl⟩
          | true =>
            obtain ⟨hM1, hM2, hM3⟩ := HT.out.2.1 rfl
            have hT4 := HT.out.1
            rw [hM1] at hT4
            by_cases p0 : 0 ≤ a2.1
            · by_cases p4 : a2.1 ≤ 4
              · have p0' : ¬ a2.1 < 0 := by omega
                have p4' : ¬ 4 < a2.1 := by omega
                rw [decide_eq_true p0, decide_eq_true p4] at hT4
                have HZ := Lib.hid (And.intro hM2 (And.intro hM3 hT4))
                clear hM1 hM2 hM3 hT4
                go_wp2_with (first | (go_at_call 69; refine (HCL.out).mono ?_; rintro _ w7 ⟨rfl, hq7⟩; obtain ⟨⟨z0, z1, z2, z3, z4, z5, z6, z7⟩, -⟩ := hq7.cells; have HQ7 := Lib.hid hq7; clear hq7) | (go_at_call 70; refine (HNAME.out _).mono ?_; rintro _ w8 ⟨rfl, rfl⟩) | (go_at_call 71; refine (HGOOD.out _ (Strs.of_owns HQ7.out.mem)).mono ?_; rintro _ w9 ⟨rfl, hb9⟩; have hq9 := HQ7.out.below hb9; obtain ⟨⟨x0, x1, x2, x3, x4, x5, x6, x7⟩, -⟩ := hq9.cells; have HQ9 := Lib.hid hq9; clear hq9 hb9))
                go_meet
                exact ⟨⟨1, g, a1.1, a2.1, acc, 0, 0, 0⟩, ma, mc, by rw [HZ.out.2.1]; exact HQ9.out, HZ.out.2.2, HZ.out.1.symm⟩
              · have p0' : ¬ a2.1 < 0 := by omega
                have p4' : 4 < a2.1 := by omega
                rw [decide_eq_true p0, decide_eq_false p4] at hT4
                have HRZ := Lib.hid (HR0.out hT4)
                clear hM1 hM2 hM3 hT4
                go_wp2_with (first | (go_at_call 69; refine (HCL.out).mono ?_; rintro _ w7 ⟨rfl, hq7⟩; obtain ⟨⟨z0, z1, z2, z3, z4, z5, z6, z7⟩, -⟩ := hq7.cells; have HQ7 := Lib.hid hq7; clear hq7) | (go_at_call 70; refine (HNAME.out _).mono ?_; rintro _ w8 ⟨rfl, rfl⟩) | (go_at_call 71; refine (HGOOD.out _ (Strs.of_owns HQ7.out.mem)).mono ?_; rintro _ w9 ⟨rfl, hb9⟩; have hq9 := HQ7.out.below hb9; obtain ⟨⟨x0, x1, x2, x3, x4, x5, x6, x7⟩, -⟩ := hq9.cells; obtain ⟨⟨n0, n1', n2', n3', n4', n5, n6, n7⟩, ⟨g0, g1, g2, g3, g4, g5, g6, g7⟩, ⟨r0, r1, r2, r3, r4, r5, r6, r7⟩⟩ := hq9.nones; have HQ9 := Lib.hid hq9; clear hq9 hb9))
                obtain ⟨hz0, hbl⟩ := HQ9.out.ret0
                have s0 := cells_of hz0 0 _ rfl
                have s1 := cells_of hz0 1 _ rfl
                have s2 := cells_of hz0 2 _ rfl
                have s3 := cells_of hz0 3 _ rfl
                have s4 := cells_of hz0 4 _ rfl
                have s5 := cells_of hz0 5 _ rfl
                have s6 := cells_of hz0 6 _ rfl
                have s7 := cells_of hz0 7 _ rfl
                exact bodyPost_ret (v := .agg sdZ) (by simp [results, Tryz.results29, go_sem, s0, s1, s2, s3, s4, s5, s6, s7]) rfl ⟨none, 0, by rw [HRZ.out]; rfl, by rw [HRZ.out]; exact World.ownsRow_nil _ _ _ _, hbl⟩
            · have p0' : a2.1 < 0 := by omega
              rw [decide_eq_false p0] at hT4
              have HRZ := Lib.hid (HR0.out hT4)
              clear hM1 hM2 hM3 hT4
              go_wp2_with (first | (go_at_call 69; refine (HCL.out).mono ?_; rintro _ w7 ⟨rfl, hq7⟩; obtain ⟨⟨z0, z1, z2, z3, z4, z5, z6, z7⟩, -⟩ := hq7.cells; have HQ7 := Lib.hid hq7; clear hq7) | (go_at_call 70; refine (HNAME.out _).mono ?_; rintro _ w8 ⟨rfl, rfl⟩) | (go_at_call 71; refine (HGOOD.out _ (Strs.of_owns HQ7.out.mem)).mono ?_; rintro _ w9 ⟨rfl, hb9⟩; have hq9 := HQ7.out.below hb9; obtain ⟨⟨x0, x1, x2, x3, x4, x5, x6, x7⟩, -⟩ := hq9.cells; obtain ⟨⟨n0, n1', n2', n3', n4', n5, n6, n7⟩, ⟨g0, g1, g2, g3, g4, g5, g6, g7⟩, ⟨r0, r1, r2, r3, r4, r5, r6, r7⟩⟩ := hq9.nones; have HQ9 := Lib.hid hq9; clear hq9 hb9))
              obtain ⟨hz0, hbl⟩ := HQ9.out.ret0
              have s0 := cells_of hz0 0 _ rfl
              have s1 := cells_of hz0 1 _ rfl
              have s2 := cells_of hz0 2 _ rfl
              have s3 := cells_of hz0 3 _ rfl
              have s4 := cells_of hz0 4 _ rfl
              have s5 := cells_of hz0 5 _ rfl
              have s6 := cells_of hz0 6 _ rfl
              have s7 := cells_of hz0 7 _ rfl
              exact bodyPost_ret (v := .agg sdZ) (by simp [results, Tryz.results29, go_sem, s0, s1, s2, s3, s4, s5, s6, s7]) rfl ⟨none, 0, by rw [HRZ.out]; rfl, by rw [HRZ.out]; exact World.ownsRow_nil _ _ _ _, hbl⟩
    · have hc1 : ¬ ((c.toNat : Int) = 116) := byte_ne_nat (d := 116) h1
      have hcb1 : ((c.toNat : Int) == 116) = false := beq_eq_false_iff_ne.2 hc1
      by_cases h2 : c = 99
      · subst h2
        cases g with
        | nil =>
          have HRZ := Lib.hid (HR0.out rfl)
          have hs2 : ((bs [99]).size : Int) < 2 := by rw [bs_size]; decide
          obtain ⟨⟨n0, n1', n2', n3', n4', n5, n6, n7⟩, ⟨g0, g1, g2, g3, g4, g5, g6, g7⟩, ⟨r0, r1, r2, r3, r4, r5, r6, r7⟩⟩ := hsC.nones
          obtain ⟨⟨z0, -, -, -, -, -, -, -⟩, fz⟩ := hsC.cells
          have fz0 := fz 0
          have HQ2 := Lib.hid (hsC.put (q' := ⟨2, [], 0, 0, [], 0, 0, 0⟩) 0 (.int .i64 2) rfl rfl)
          clear hsC fz
          go_wp2
          obtain ⟨hz0, hbl⟩ := HQ2.out.ret0
          have s0 := cells_of hz0 0 _ rfl
          have s1 := cells_of hz0 1 _ rfl
          have s2 := cells_of hz0 2 _ rfl
          have s3 := cells_of hz0 3 _ rfl
          have s4 := cells_of hz0 4 _ rfl
          have s5 := cells_of hz0 5 _ rfl
          have s6 := cells_of hz0 6 _ rfl
          have s7 := cells_of hz0 7 _ rfl
          exact bodyPost_ret (v := .agg sdZ) (by simp [results, Tryz.results29, go_sem, s0, s1, s2, s3, s4, s5, s6, s7]) rfl ⟨none, 0, by rw [HRZ.out]; rfl, by rw [HRZ.out]; exact World.ownsRow_nil _ _ _ _, hbl⟩
        | cons d r =>
          have hs2 : ¬ ((bs (99 :: d :: r)).size : Int) < 2 := by rw [bs_size]; simp; omega
          have hs3 : (1 : Int) < ((bs (99 :: d :: r)).size : Int) := by rw [bs_size]; simp; omega
          have hb1 : ∀ h, (bs (99 :: d :: r))[1]'h = d := fun h => by rw [bs_get]; rfl
          have hd8 := d.toNat_lt
          obtain ⟨⟨n0, n1', n2', n3', n4', n5, n6, n7⟩, ⟨g0, g1, g2, g3, g4, g5, g6, g7⟩, ⟨r0, r1, r2, r3, r4, r5, r6, r7⟩⟩ := hsC.nones
          obtain ⟨⟨z0, z1, z2, z3, z4, z5, z6, z7⟩, fz⟩ := hsC.cells
          have fz0 := fz 0
          have fz1 := fz 1
          have fz5 := fz 5
          by_cases hlo : (d.toNat : Int) < 48
          · have HRZ := Lib.hid (HR0.out (by
              have : partDig d = false := by simp [partDig]; omega
              simp [rdBody, this]))
            have HQ2 := Lib.hid (hsC.put (q' := ⟨2, [], 0, 0, [], 0, 0, 0⟩) 0 (.int .i64 2) rfl rfl)
            clear hsC fz
            go_wp2
            obtain ⟨hz0, hbl⟩ := HQ2.out.ret0
            have s0 := cells_of hz0 0 _ rfl
            have s1 := cells_of hz0 1 _ rfl
            have s2 := cells_of hz0 2 _ rfl
            have s3 := cells_of hz0 3 _ rfl
            have s4 := cells_of hz0 4 _ rfl
            have s5 := cells_of hz0 5 _ rfl
            have s6 := cells_of hz0 6 _ rfl
            have s7 := cells_of hz0 7 _ rfl
            exact bodyPost_ret (v := .agg sdZ) (by simp [results, Tryz.results29, go_sem, s0, s1, s2, s3, s4, s5, s6, s7]) rfl ⟨none, 0, by rw [HRZ.out]; rfl, by rw [HRZ.out]; exact World.ownsRow_nil _ _ _ _, hbl⟩
          · by_cases hhi : (51 : Int) < (d.toNat : Int)
            · have HRZ := Lib.hid (HR0.out (by
                have : partDig d = false := by simp [partDig]; omega
                simp [rdBody, this]))
              have HQ2 := Lib.hid (hsC.put (q' := ⟨2, [], 0, 0, [], 0, 0, 0⟩) 0 (.int .i64 2) rfl rfl)
              clear hsC fz
              go_wp2
              obtain ⟨hz0, hbl⟩ := HQ2.out.ret0
              have s0 := cells_of hz0 0 _ rfl
              have s1 := cells_of hz0 1 _ rfl
              have s2 := cells_of hz0 2 _ rfl
              have s3 := cells_of hz0 3 _ rfl
              have s4 := cells_of hz0 4 _ rfl
              have s5 := cells_of hz0 5 _ rfl
              have s6 := cells_of hz0 6 _ rfl
              have s7 := cells_of hz0 7 _ rfl
              exact bodyPost_ret (v := .agg sdZ) (by simp [results, Tryz.results29, go_sem, s0, s1, s2, s3, s4, s5, s6, s7]) rfl ⟨none, 0, by rw [HRZ.out]; rfl, by rw [HRZ.out]; exact World.ownsRow_nil _ _ _ _, hbl⟩
            · have hb : rdBody 99 (d :: r) st = rdPoint d r st := by
                have : partDig d = true := by simp [partDig]; omega
                simp [rdBody, this]
              obtain ⟨a1, ha1⟩ : ∃ a1, rdI st = a1 := ⟨_, rfl⟩
              obtain ⟨a2, ha2⟩ : ∃ a2, rdI a1.2 = a2 := ⟨_, rfl⟩
              have hi1 : ∀ W q ma mc, RsW w W off (99 :: d :: r) val sb q ma mc st → Calls Tryz.prog 66 #[.pointer (some ⟨w.heap.size + 1 + 1 + 1, 0, none⟩)] W fun e w' => e = .returned (.int .i64 a1.1) ∧ RsW w w' off (99 :: d :: r) val sb q ma mc a1.2 := fun W q ma mc h => by rw [← ha1]; exact h.int HS.out
              have hi2 : ∀ W q ma mc, RsW w W off (99 :: d :: r) val sb q ma mc a1.2 → Calls Tryz.prog 66 #[.pointer (some ⟨w.heap.size + 1 + 1 + 1, 0, none⟩)] W fun e w' => e = .returned (.int .i64 a2.1) ∧ RsW w w' off (99 :: d :: r) val sb q ma mc a2.2 := fun W q ma mc h => by rw [← ha2]; exact h.int HS.out
              have hzz : (bs (99 :: d :: r)).size = r.length + 1 + 1 := by rw [bs_size]; simp
              have hs4 : (2 : Int) ≤ ((bs (99 :: d :: r)).size : Int) := by rw [hzz]; omega
              have hex2 : (bs (99 :: d :: r)).extract 2 (r.length + 1 + 1) = bs r := by rw [bs_extract]; simp
              have hw8 : IntKind.u8.wrap ((d.toNat : Int) - 48) = (d.toNat : Int) - 48 := by
                unfold IntKind.wrap
                simp [IntKind.bits, IntKind.signed]
                omega
              have hw64 : IntKind.i64.wrap ((d.toNat : Int) - 48) = (d.toNat : Int) - 48 := IntWalk.i64_in _ (by omega)
              have hw64' : wrap64 ((d.toNat : Int) - 48) = (d.toNat : Int) - 48 := by rw [← IntWalk.i64_left]; exact hw64
              obtain ⟨bn, hbn⟩ : ∃ bn, nameB r = bn := ⟨_, rfl⟩
              have hname : ∀ W, Calls Tryz.prog 70 #[.string (bs r)] W fun e w' => e = .returned (.bool bn) ∧ w' = W := fun W => by rw [← hbn]; exact R10Name_any r W
              have hT1 : (rdBody 99 (d :: r) st).2.1 = (bn && (decide (0 ≤ a1.1) && decide (a1.1 ≤ 1099511627776))) := by
                rw [hb]
                simp only [rdPoint, ha1, hbn, offB]
              have hT2 : sdOf (rdBody 99 (d :: r) st).1 = ⟨2, r, a2.1, 0, [], (d.toNat : Int) - 48, a1.1, 0⟩ ∧ (rdBody 99 (d :: r) st).2.2 = a2.2 := by
                rw [hb]
                simp only [rdPoint, ha1, ha2]
                exact ⟨rfl, trivial⟩
              have HT := Lib.hid (And.intro hT1 hT2)
              have HI1 := Lib.hid hi1
              have HI2 := Lib.hid hi2
              have HNAME := Lib.hid hname
              have HQ2 := Lib.hid (((hsC.put (q' := ⟨2, [], 0, 0, [], 0, 0, 0⟩) 0 (.int .i64 2) rfl rfl).put (q' := ⟨2, [], 0, 0, [], (d.toNat : Int) - 48, 0, 0⟩) 5 (.int .i64 ((d.toNat : Int) - 48)) rfl rfl).put (q' := ⟨2, r, 0, 0, [], (d.toNat : Int) - 48, 0, 0⟩) 1 (.string (bs r)) rfl rfl)
              clear hb ha1 ha2 hi1 hi2 hname hbn hT1 hT2 hsC fz HC
              go_upto_region 28 with (first
                | (go_at_call 66; with_reducible refine (HI1.out _ _ _ _ HQ2.out).mono ?_; rintro _ w3 ⟨rfl, hq3⟩; obtain ⟨⟨-, -, -, -, -, -, z36, -⟩, fz3⟩ := hq3.cells; have fz36 := fz3 6; have HQ3 := Lib.hid (hq3.put (q' := ⟨2, r, 0, 0, [], (d.toNat : Int) - 48, a1.1, 0⟩) 6 (.int .i64 a1.1) rfl rfl); clear hq3 fz3)
                | (go_at_call 66; with_reducible refine (HI2.out _ _ _ _ HQ3.out).mono ?_; rintro _ w4 ⟨rfl, hq4⟩; obtain ⟨⟨-, -, z42, -, -, -, -, -⟩, fz4⟩ := hq4.cells; have fz42 := fz4 2; have HQ4 := Lib.hid (hq4.put (q' := ⟨2, r, a2.1, 0, [], (d.toNat : Int) - 48, a1.1, 0⟩) 2 (.int .i64 a2.1) rfl rfl); clear hq4 fz4))
              obtain ⟨wp, hwp⟩ : ∃ wp, wp = w4.setCell ⟨sb, 2, none⟩ (.int .i64 a2.1) := ⟨_, rfl⟩
              have hq5 := HQ4.out
              rw [← hwp] at hq5 ⊢
              obtain ⟨⟨n0, n1', n2', n3', n4', n5, n6, n7⟩, ⟨g0, g1, g2, g3, g4, g5, g6, g7⟩, ⟨r0, r1, r2, r3, r4, r5, r6, r7⟩⟩ := hq5.nones
              obtain ⟨⟨x0, x1, x2, x3, x4, x5, x6, x7⟩, -⟩ := hq5.cells
              have HQ5 := Lib.hid hq5
              clear hwp hq5 HQ2 HQ3 HQ4 HI1 HI2 z0 z1 z2 z3 z4 z5 z6 z7 fz0 fz1 fz5 z36 fz36 z42 fz42
              cases bn with
              | false =>
                have HRZ := Lib.hid (HR0.out (by rw [HT.out.1]; rfl))
                go_wp2_with (first | (go_at_call 70; refine (HNAME.out _).mono ?_; rintro _ w8 ⟨rfl, rfl⟩))
                obtain ⟨hz0, hbl⟩ := HQ5.out.ret0
                have s0 := cells_of hz0 0 _ rfl
                have s1 := cells_of hz0 1 _ rfl
                have s2 := cells_of hz0 2 _ rfl
                have s3 := cells_of hz0 3 _ rfl
                have s4 := cells_of hz0 4 _ rfl
                have s5 := cells_of hz0 5 _ rfl
                have s6 := cells_of hz0 6 _ rfl
                have s7 := cells_of hz0 7 _ rfl
                exact bodyPost_ret (v := .agg sdZ) (by simp [results, Tryz.results29, go_sem, s0, s1, s2, s3, s4, s5, s6, s7]) rfl ⟨none, 0, by rw [HRZ.out]; rfl, by rw [HRZ.out]; exact World.ownsRow_nil _ _ _ _, hbl⟩
              | true =>
                have hT4 := HT.out.1
                by_cases p0 : 0 ≤ a1.1
                · by_cases p4 : a1.1 ≤ 1099511627776
                  · have p0' : ¬ a1.1 < 0 := by omega
                    have p4' : ¬ 1099511627776 < a1.1 := by omega
                    rw [decide_eq_true p0, decide_eq_true p4] at hT4
                    have HZ := Lib.hid hT4
                    clear hT4
                    go_wp2_with (first | (go_at_call 70; refine (HNAME.out _).mono ?_; rintro _ w8 ⟨rfl, rfl⟩))
                    go_meet
                    exact ⟨⟨2, r, a2.1, 0, [], (d.toNat : Int) - 48, a1.1, 0⟩, none, 0, by rw [HT.out.2.2]; exact HQ5.out, HZ.out, HT.out.2.1.symm⟩
                  · have p0' : ¬ a1.1 < 0 := by omega
                    have p4' : 1099511627776 < a1.1 := by omega
                    rw [decide_eq_true p0, decide_eq_false p4] at hT4
                    have HRZ := Lib.hid (HR0.out hT4)
                    clear hT4
                    go_wp2_with (first | (go_at_call 70; refine (HNAME.out _).mono ?_; rintro _ w8 ⟨rfl, rfl⟩))
                    obtain ⟨hz0, hbl⟩ := HQ5.out.ret0
                    have s0 := cells_of hz0 0 _ rfl
                    have s1 := cells_of hz0 1 _ rfl
                    have s2 := cells_of hz0 2 _ rfl
                    have s3 := cells_of hz0 3 _ rfl
                    have s4 := cells_of hz0 4 _ rfl
                    have s5 := cells_of hz0 5 _ rfl
                    have s6 := cells_of hz0 6 _ rfl
                    have s7 := cells_of hz0 7 _ rfl
                    exact bodyPost_ret (v := .agg sdZ) (by simp [results, Tryz.results29, go_sem, s0, s1, s2, s3, s4, s5, s6, s7]) rfl ⟨none, 0, by rw [HRZ.out]; rfl, by rw [HRZ.out]; exact World.ownsRow_nil _ _ _ _, hbl⟩
                · have p0' : a1.1 < 0 := by omega
                  rw [decide_eq_false p0] at hT4
                  have HRZ := Lib.hid (HR0.out hT4)
                  clear hT4
                  go_wp2_with (first | (go_at_call 70; refine (HNAME.out _).mono ?_; rintro _ w8 ⟨rfl, rfl⟩))
                  obtain ⟨hz0, hbl⟩ := HQ5.out.ret0
                  have s0 := cells_of hz0 0 _ rfl
                  have s1 := cells_of hz0 1 _ rfl
                  have s2 := cells_of hz0 2 _ rfl
                  have s3 := cells_of hz0 3 _ rfl
                  have s4 := cells_of hz0 4 _ rfl
                  have s5 := cells_of hz0 5 _ rfl
                  have s6 := cells_of hz0 6 _ rfl
                  have s7 := cells_of hz0 7 _ rfl
                  exact bodyPost_ret (v := .agg sdZ) (by simp [results, Tryz.results29, go_sem, s0, s1, s2, s3, s4, s5, s6, s7]) rfl ⟨none, 0, by rw [HRZ.out]; rfl, by rw [HRZ.out]; exact World.ownsRow_nil _ _ _ _, hbl⟩
      · have hc2 : ¬ ((c.toNat : Int) = 99) := byte_ne_nat (d := 99) h2
        have hcb2 : ((c.toNat : Int) == 99) = false := beq_eq_false_iff_ne.2 hc2
        by_cases h3 : c = 110
        · subst h3
          have hb : rdBody 110 g st = rdNo g st := by simp [rdBody]
          obtain ⟨a1, ha1⟩ : ∃ a1, rdI st = a1 := ⟨_, rfl⟩
          have hi1 : ∀ W q ma mc, RsW w W off (110 :: g) val sb q ma mc st → Calls Tryz.prog 66 #[.pointer (some ⟨w.heap.size + 1 + 1 + 1, 0, none⟩)] W fun e w' => e = .returned (.int .i64 a1.1) ∧ RsW w w' off (110 :: g) val sb q ma mc a1.2 := fun W q ma mc h => by rw [← ha1]; exact h.int HS.out
          have hT1 : (rdBody 110 g st).2.1 = g.isEmpty := by rw [hb]; rfl
          have hT2 : g = [] → sdOf (rdBody 110 g st).1 = ⟨3, [], 0, 0, [], 0, 0, a1.1⟩ ∧ (rdBody 110 g st).2.2 = a1.2 := by
            intro hg0
            rw [hb, hg0]
            simp only [rdNo, ha1]
            exact ⟨rfl, trivial⟩
          obtain ⟨⟨z0, z1, z2, z3, z4, z5, z6, z7⟩, fz⟩ := hsC.cells
          have fz0 := fz 0
          have HT := Lib.hid (And.intro hT1 hT2)
          have HI1 := Lib.hid hi1
          have HQ2 := Lib.hid (hsC.put (q' := ⟨3, [], 0, 0, [], 0, 0, 0⟩) 0 (.int .i64 3) rfl rfl)
          clear hb ha1 hi1 hT1 hT2 hsC fz HC
          go_upto_region 33 with (first
            | (go_at_call 66; with_reducible refine (HI1.out _ _ _ _ HQ2.out).mono ?_; rintro _ w3 ⟨rfl, hq3⟩; obtain ⟨⟨-, -, -, -, -, -, -, z37⟩, fz3⟩ := hq3.cells; have fz37 := fz3 7; have HQ3 := Lib.hid (hq3.put (q' := ⟨3, [], 0, 0, [], 0, 0, a1.1⟩) 7 (.int .i64 a1.1) rfl rfl); clear hq3 fz3))
          obtain ⟨wp, hwp⟩ : ∃ wp, wp = w3.setCell ⟨sb, 7, none⟩ (.int .i64 a1.1) := ⟨_, rfl⟩
          have hq5 := HQ3.out
          rw [← hwp] at hq5 ⊢
          obtain ⟨⟨n0, n1', n2', n3', n4', n5, n6, n7⟩, ⟨g0, g1, g2, g3, g4, g5, g6, g7⟩, ⟨r0, r1, r2, r3, r4, r5, r6, r7⟩⟩ := hq5.nones
          have y5 := cells_of hq5.rcd 1 _ rfl
          have HQ5 := Lib.hid hq5
          clear hwp hq5 HQ2 HQ3 HI1 z0 z1 z2 z3 z4 z5 z6 z7 fz0 z37 fz37
          cases g with
          | nil =>
            have hk : (bs [110]).toList = [110] := bs_toList _
            have hk1 : ((bs [110]).toList == [110]) = true := by rw [hk]; rfl
            have hk2 : ((bs [110]).toList != [110]) = false := by rw [hk]; rfl
            go_wp2
            go_meet
            exact ⟨⟨3, [], 0, 0, [], 0, 0, a1.1⟩, none, 0, by rw [(HT.out.2 (by first | rfl | trivial)).2]; exact HQ5.out, HT.out.1, (HT.out.2 (by first | rfl | trivial)).1.symm⟩
          | cons d r =>
            have HRZ := Lib.hid (HR0.out (by rw [HT.out.1]; rfl))
            have hk : ¬ (bs (110 :: d :: r)).toList = [110] := by rw [bs_toList]; simp
            have hk1 : ((bs (110 :: d :: r)).toList == [110]) = false := beq_eq_false_iff_ne.2 hk
            have hk2 : ((bs (110 :: d :: r)).toList != [110]) = true := by rw [bne, hk1]; rfl
            go_wp2
            obtain ⟨hz0, hbl⟩ := HQ5.out.ret0
            have s0 := cells_of hz0 0 _ rfl
            have s1 := cells_of hz0 1 _ rfl
            have s2 := cells_of hz0 2 _ rfl
            have s3 := cells_of hz0 3 _ rfl
            have s4 := cells_of hz0 4 _ rfl
            have s5 := cells_of hz0 5 _ rfl
            have s6 := cells_of hz0 6 _ rfl
            have s7 := cells_of hz0 7 _ rfl
            exact bodyPost_ret (v := .agg sdZ) (by simp [results, Tryz.results29, go_sem, s0, s1, s2, s3, s4, s5, s6, s7]) rfl ⟨none, 0, by rw [HRZ.out]; rfl, by rw [HRZ.out]; exact World.ownsRow_nil _ _ _ _, hbl⟩
        · have hc3 : ¬ ((c.toNat : Int) = 110) := byte_ne_nat (d := 110) h3
          have hcb3 : ((c.toNat : Int) == 110) = false := beq_eq_false_iff_ne.2 hc3
          have HRZ := Lib.hid (HR0.out (by simp [rdBody, h1, h2, h3]))
          obtain ⟨⟨n0, n1', n2', n3', n4', n5, n6, n7⟩, ⟨g0, g1, g2, g3, g4, g5, g6, g7⟩, ⟨r0, r1, r2, r3, r4, r5, r6, r7⟩⟩ := hsC.nones
          clear hsC
          go_wp2
          obtain ⟨hz0, hbl⟩ := HC.out.ret0
          have s0 := cells_of hz0 0 _ rfl
          have s1 := cells_of hz0 1 _ rfl
          have s2 := cells_of hz0 2 _ rfl
          have s3 := cells_of hz0 3 _ rfl
          have s4 := cells_of hz0 4 _ rfl
          have s5 := cells_of hz0 5 _ rfl
          have s6 := cells_of hz0 6 _ rfl
          have s7 := cells_of hz0 7 _ rfl
          exact bodyPost_ret (v := .agg sdZ) (by simp [results, Tryz.results29, go_sem, s0, s1, s2, s3, s4, s5, s6, s7]) rfl ⟨none, 0, by rw [HRZ.out]; rfl, by rw [HRZ.out]; exact World.ownsRow_nil _ _ _ _, hbl⟩
  case rest =>
    obtain ⟨q, ma, mc, hq, hbt, hqe⟩ := hcut
    obtain ⟨st2, hst2⟩ : ∃ st2, (rdBody c g st).2.2 = st2 := ⟨_, rfl⟩
    rw [hst2] at hq
    have hcl := hq.close HS.out
    obtain ⟨st3, hst3⟩ : ∃ st3, rdS 101 st2 = st3 := ⟨_, rfl⟩
    rw [hst3] at hcl
    have hRq : R = if rdD st3 = true then q else .zero := by
      rw [← HRR.out, hbt, hst2, hst3, Bool.true_and, hqe]
      split <;> rfl
    have HCL := Lib.hid hcl
    clear HRR HR0 HC y1 hbt hqe hst2 hst3 hcl hq
    cases hd : rdD st3 with
    | false =>
      rw [hd] at hRq
      have HRZ := Lib.hid (show R = .zero from hRq)
      have HD : Hid ((if rdD st3 = true then (0 : Int) else 3) = 3) := Lib.hid (by rw [hd]; rfl)
      clear hd hRq
      go_wp2_with (first | (go_at_call 69; refine HCL.out.mono ?_; rintro _ w3 ⟨rfl, hq3⟩; have HQ3 := Lib.hid hq3; clear hq3) | (go_at_call 72; refine (HQ3.out.done HS.out).mono ?_; rintro _ w4 ⟨rfl, hq4⟩; obtain ⟨⟨n0, n1', n2', n3', n4', n5, n6, n7⟩, ⟨g0, g1, g2, g3, g4, g5, g6, g7⟩, ⟨r0, r1, r2, r3, r4, r5, r6, r7⟩⟩ := hq4.nones; have HQ4 := Lib.hid hq4; clear hq4; rw [HD.out]))
      obtain ⟨hz0, hbl⟩ := HQ4.out.ret0
      have s0 := cells_of hz0 0 _ rfl
      have s1 := cells_of hz0 1 _ rfl
      have s2 := cells_of hz0 2 _ rfl
      have s3 := cells_of hz0 3 _ rfl
      have s4 := cells_of hz0 4 _ rfl
      have s5 := cells_of hz0 5 _ rfl
      have s6 := cells_of hz0 6 _ rfl
      have s7 := cells_of hz0 7 _ rfl
      exact bodyPost_ret (v := .agg sdZ) (by simp [results, Tryz.results29, go_sem, s0, s1, s2, s3, s4, s5, s6, s7]) rfl ⟨none, 0, by rw [HRZ.out]; rfl, by rw [HRZ.out]; exact World.ownsRow_nil _ _ _ _, hbl⟩
    | true =>
      rw [hd] at hRq
      have HRZ := Lib.hid (show R = q from hRq)
      have HD : Hid ((if rdD st3 = true then (0 : Int) else 3) = 0) := Lib.hid (by rw [hd]; rfl)
      clear hd hRq
      go_wp2_with (first | (go_at_call 69; refine HCL.out.mono ?_; rintro _ w3 ⟨rfl, hq3⟩; have HQ3 := Lib.hid hq3; clear hq3) | (go_at_call 72; refine (HQ3.out.done HS.out).mono ?_; rintro _ w4 ⟨rfl, hq4⟩; obtain ⟨⟨n0, n1', n2', n3', n4', n5, n6, n7⟩, ⟨g0, g1, g2, g3, g4, g5, g6, g7⟩, ⟨r0, r1, r2, r3, r4, r5, r6, r7⟩⟩ := hq4.nones; obtain ⟨⟨z0, z1, z2, z3, z4, z5, z6, z7⟩, -⟩ := hq4.cells; have HQ4 := Lib.hid hq4; clear hq4; rw [HD.out]))
      obtain ⟨hz0, hu⟩ := set8 HQ4.out.res (.int .i64 q.kind) (.string (bs q.group)) (.int .i64 q.gen) (.int .i64 q.parts) (.slice ma q.members.length mc) (.int .i64 q.part) (.int .i64 q.off) (.int .i64 q.code)
      have s0 := cells_of hz0 0 _ rfl
      have s1 := cells_of hz0 1 _ rfl
      have s2 := cells_of hz0 2 _ rfl
      have s3 := cells_of hz0 3 _ rfl
      have s4 := cells_of hz0 4 _ rfl
      have s5 := cells_of hz0 5 _ rfl
      have s6 := cells_of hz0 6 _ rfl
      have s7 := cells_of hz0 7 _ rfl
      exact bodyPost_ret (v := .agg (sdC q ma mc)) (by simp [results, Tryz.results29, go_sem, s0, s1, s2, s3, s4, s5, s6, s7]) rfl ⟨ma, mc, by rw [HRZ.out], by rw [HRZ.out]; exact owns_upd HQ4.out.mem hu (fun g hg e => (HQ4.out.memne g hg).2.1 e), HQ4.out.bel.trans (hu.toBelow HQ4.out.bel.size (fun k e => by omega))⟩
end Go.Proofs.YtdchjepahgecgaaGreatDoor
