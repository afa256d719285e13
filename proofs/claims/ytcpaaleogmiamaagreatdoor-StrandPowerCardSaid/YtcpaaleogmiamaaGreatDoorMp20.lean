/- The walk of strand.framed: the bytes of batches. -/
/- The library's contracts at this dump's numbers (by the kit's lay-plain). -/
/- slices.Clone at parts, lives, ints; slices.Delete at ints; plan.copied. -/
/- slices.Clone at records, batches, segments; strand.copied. -/
import Derived.Test.YtcpaaleogmiamaaGreatDoorMp19
import Derived.Shelf.SlicesG.Delete
import Derived.Ground.SlgnProg
import Derived.Test.YtcpaaleogmiamaaGreatDoorProg
import Derived.Test.YtcpaaleogmiamaaGreatDoorMp5
import Derived.Sort.OwnSortedInts
namespace Go.Proofs.YtcpaaleogmiamaaGreatDoor
open Go.RowKit

/-- A strings.Builder of the call's own. -/
def BdAt (w : World) (B b : Nat) (l : List UInt8) : Prop := Lib.IsBuilder 212 5 B b (Lib.byteCells l) w
theorem BdAt.new (w : World) : BdAt (w.alloc (.cells #[.pointer none, .slice none 0 0] 212)) w.heap.size w.heap.size [] :=
  .inl ⟨Nat.le_refl _, .slice none 0 0, heap_alloc_new _ _, World.ownsRow_nil _ _ _ _, by simp [Value.ownBlock]⟩
theorem BdAt.below {w w' : World} {B b : Nat} {l : List UInt8} (h : BdAt w B b l) (hb : Below w.heap.size w w') : BdAt w' B b l := by
  have key : ∀ p, Lib.BuilderAt 212 5 B b p (Lib.byteCells l) w → Lib.BuilderAt 212 5 B b p (Lib.byteCells l) w' := by
    rintro p ⟨h1, v, h2, h3, h4⟩
    exact ⟨h1, v, (hb.block _ (Array.getElem?_eq_some_iff.1 h2).1).trans h2, owns_upd h3 (F := fun _ => False) (.of_below hb) (fun _ _ h => h), h4⟩
  exact h.imp (key _) (key _)
theorem BdWrite_any {w : World} {B b : Nat} {l : List UInt8} (h : BdAt w B b l) (t : List UInt8) (hl : l.length + t.length ≤ 140737488355328) (hB : B ≤ w.heap.size) :
    Calls Tryz.prog 145 #[.pointer (some ⟨b, 0, none⟩), .string (bs t)] w fun e w' => (∃ v, e = .returned v) ∧ BdAt w' B b (l ++ t) ∧ Below B w w' := by
  refine (Any.Builder_WriteString (ρ := Tryz.laysJoin_ren) { Tryz.laysJoin with } Tryz.joinX B b (Lib.byteCells l) (bs t) w h (by rw [bs_size, Lib.byteCells_length]; exact hl) hB).mono ?_
  rintro e w' ⟨he, h1, h2⟩
  refine ⟨⟨_, he⟩, .inr ?_, h2⟩
  have e1 : Lib.byteCells l ++ Lib.strCells (bs t) = Lib.byteCells (l ++ t) := by rw [Lib.strCells_eq, bs_data]; simp [Lib.byteCells]
  rw [e1] at h1
  exact h1
theorem BdString_any {w : World} {B b : Nat} {l : List UInt8} (h : BdAt w B b l) (hB : B ≤ w.heap.size) :
    Calls Tryz.prog 146 #[.pointer (some ⟨b, 0, none⟩)] w fun e w' => e = .returned (.string (bs l)) ∧ Below B w w' :=
  Any.Builder_String_any (ρ := Tryz.laysJoin_ren) { Tryz.laysJoin with } Tryz.joinX B b l w h hB

set_option maxRecDepth 100000 in
set_option maxHeartbeats 2000000 in
theorem Stframed_any {w : World} {v : Value} {l : List Batch} (h : BsRd w v l) (hg : ∀ b ∈ l, goodB b = true) (hl : l.length ≤ 1000000000) (hE : Env w) :
    Calls Tryz.prog 89 #[v] w fun e w' => e = .returned (.string (bs (sgB l))) ∧ Below w.heap.size w w' := by
  obtain ⟨a, cap, rfl, -, -, hC⟩ := h.cells
  have hen : ∀ (k : Nat) (hk : k < l.length) (ra : Option Addr) (rc : Nat) W, RcsRd w (.slice ra l[k].recs.length rc) l[k].recs → Below w.heap.size w W → Calls Tryz.prog 144 #[l[k].v (.slice ra l[k].recs.length rc)] W fun e w' => e = .returned (.tuple #[.string (bs (encB l[k])), .int .i64 0]) ∧ Below W.heap.size W w' :=
    fun k hk ra rc W hr hW => CrEncode_yes (hr.below hW) (hg _ (List.getElem_mem hk)) (hE.below hW)
  have HEN := Lib.hid hen
  have HC := Lib.hid hC
  have HG := Lib.hid hg
  obtain ⟨wb, hwb⟩ : ∃ wb, wb = w.alloc (.cells #[.pointer none, .slice none 0 0] 212) := ⟨_, rfl⟩
  have hbd : BdAt wb w.heap.size w.heap.size (sgB []) := by rw [hwb]; exact BdAt.new w
  have hbw : Below w.heap.size w wb := by rw [hwb]; exact below_alloc _ _
  have HB := Lib.hid (And.intro hbd hbw)
  have hll : (l.length : Int) ≤ 1000000000 := by omega
  clear h hC hE hen hg hbd hbw
  go_enter Tryz.func89, Tryz.ntmps89
  go_upto_region 2 with fail
  rw [← hwb]
  clear hwb
  go_wp2
  go_loopg [12] l.length (fun gk i wr => ∃ k : Nat, k ≤ l.length ∧ gk = l.length - k ∧ i = .int .i64 k ∧ BdAt wr w.heap.size w.heap.size (sgB (l.take k)) ∧ Below w.heap.size w wr)
  case atStart => exact ⟨0, Nat.zero_le _, rfl, rfl, HB.out.1, HB.out.2⟩
  case round =>
    obtain ⟨k, hk, rfl, rfl, hbd, hbel⟩ := hrel
    have hsz := hbel.size
    have HR := Lib.hid (And.intro hbd hbel)
    by_cases hlt : k < l.length
    · obtain ⟨b, off, ra, rc, rfl, hb, c0, c1, c2, c3, c4, c5, hrr⟩ := HC.out k hlt
      have c0 := below_some hbel c0 hb
      have c1 := below_some hbel c1 hb
      have c2 := below_some hbel c2 hb
      have c3 := below_some hbel c3 hb
      have c4 := below_some hbel c4 hb
      have c5 := below_some hbel c5 hb
      have hbw : b < wr.heap.size := by omega
      have htk : l.take (k + 1) = l.take k ++ [l[k]] := by rw [List.take_succ_eq_append_getElem hlt]
      have henk := fun W hW => HEN.out k hlt ra rc W hrr hW
      have hgk := HG.out _ (List.getElem_mem hlt)
      have hgt : (sgB (l.take k)).length ≤ 2008 * 1000000000 := by
        have h1 := sgB_le (l := l.take k) (fun x hx => HG.out x (List.mem_of_mem_take hx))
        have h2 : (l.take k).length ≤ 1000000000 := by rw [List.length_take]; omega
        exact Nat.le_trans h1 (Nat.mul_le_mul_left _ h2)
      generalize l[k] = bt at *
      have hle := encB_len hgk
      have hfr := frB_len hgk
      obtain ⟨q0, q1, q2, q3, q4, qr⟩ := bt
      simp only [Batch.v] at henk
      simp only at c0 c1 c2 c3 c4 c5
      have HTK := Lib.hid htk
      have HENK := Lib.hid henk
      obtain ⟨eb, heb⟩ : ∃ eb, encB ⟨q0, q1, q2, q3, q4, qr⟩ = eb := ⟨_, rfl⟩
      rw [heb] at HENK hle hfr
      have HEB := Lib.hid heb
      have i2 : (k : Int) < (l.length : Int) := by omega
      have i3 : (0 : Int) ≤ (k : Int) := by omega
      have HL := Lib.hid (And.intro hle (And.intro hfr hgt))
      clear hbd hbel hrr htk henk hgk heb hle hfr hgt
      go_upto_region 5 with fail
      obtain ⟨w3, hw3⟩ : ∃ w3, w3 = wr.alloc (.cells #[.int .i64 q0, .int .i64 q1, .int .i64 q2, .int .i64 q3, .int .i64 q4, .slice ra qr.length rc] 40) := ⟨_, rfl⟩
      have hb3 : Below wr.heap.size wr w3 := by rw [hw3]; exact below_alloc _ _
      have hx3 : w3.heap[wr.heap.size]? = some (.cells #[.int .i64 q0, .int .i64 q1, .int .i64 q2, .int .i64 q3, .int .i64 q4, .slice ra qr.length rc] 40 (0, 0)) := by rw [hw3]; exact heap_alloc_new _ _
      rw [← hw3]
      have z0 := cells_of hx3 0 _ rfl
      have z1 := cells_of hx3 1 _ rfl
      have z2 := cells_of hx3 2 _ rfl
      have z3 := cells_of hx3 3 _ rfl
      have z4 := cells_of hx3 4 _ rfl
      have z5 := cells_of hx3 5 _ rfl
      have H3 := Lib.hid hb3
      clear hw3 hb3 hx3
      go_wp2_with fail
      refine (HENK.out _ (HR.out.2.trans (H3.out.mono hsz))).mono ?_
      rintro e w4 ⟨rfl, hb4⟩
      go_wp2_with fail
      refine (FrPut_any eb (by have := HL.out.1; omega) w4).mono ?_
      rintro e w5 ⟨rfl, hb5⟩
      have hb35 := below_trans H3.out (below_trans hb4 hb5)
      have hbd5 := HR.out.1.below hb35
      have hB5 : w.heap.size ≤ w5.heap.size := by have := hb35.size; omega
      have hws := BdWrite_any hbd5 (frameB eb) (by have := HL.out; omega) hB5
      have HWS := Lib.hid hws
      have H35 := Lib.hid hb35
      clear hb4 hb5 hb35 hbd5 hws z0 z1 z2 z3 z4 z5
      go_wp2_with (first | (go_at_call 145; refine HWS.out.mono ?_; rintro e w6 ⟨⟨v6, rfl⟩, hbd6, hb6⟩; have H6 := Lib.hid (And.intro hbd6 hb6); clear hbd6 hb6))
      go_roundg (l.length - (k + 1))
      case measure => omega
      case rel => exact ⟨k + 1, by omega, rfl, by go_num, by rw [HTK.out, sgB_snoc, HEB.out]; exact H6.out.1, HR.out.2.trans ((H35.out.mono hsz).trans H6.out.2)⟩
    · have i2 : ¬ (k : Int) < (l.length : Int) := by omega
      have htk : l.take k = l := List.take_of_length_le (by omega)
      rw [htk] at HR
      have hst := BdString_any HR.out.1 hsz
      have HST := Lib.hid hst
      clear hst hbd hbel htk
      go_wp2_with (first | (go_at_call 146; refine HST.out.mono ?_; rintro e w6 ⟨rfl, hb6⟩))
      go_ret
      exact ⟨rfl, HR.out.2.trans hb6⟩
end Go.Proofs.YtcpaaleogmiamaaGreatDoor
namespace Go.Proofs.YtcpaaleogmiamaaGreatDoor
open Go.Shelf
def Tryz.delA_ren : Go.Shelf.Ren := ⟨fun | 45 => 179 | n => n, fun | 22 => 22 | 23 => 3 | 3 => 3 | 4 => 4 | 0 => 0 | n => n, fun | n => n⟩
theorem Tryz.delA : Go.Proofs.SlLaysN.n45 Tryz.prog Tryz.delA_ren := {
  mixed := by kernel_rfl
  f45 := ⟨Tryz.f179.name, by decide, Tryz.func179.trans (congrArg some (by kernel_rfl))⟩
  t0 := Tryz.underlying0
  a0 := Tryz.isAgg0
  z0 := Tryz.sizeOf0
  v0 := Tryz.zeroValue0
  t3 := Tryz.underlying3
  a3 := Tryz.isAgg3
  z3 := Tryz.sizeOf3
  v3 := Tryz.zeroValue3
  t4 := Tryz.underlying4
  a4 := Tryz.isAgg4
  z4 := Tryz.sizeOf4
  v4 := Tryz.zeroValue4
  t22 := Tryz.underlying22
  a22 := Tryz.isAgg22
  z22 := Tryz.sizeOf22
  v22 := Tryz.zeroValue22
  t23 := Tryz.underlying3
  a23 := Tryz.isAgg3
  z23 := Tryz.sizeOf3
  v23 := Tryz.zeroValue3
  i23 := by kernel_rfl }
end Go.Proofs.YtcpaaleogmiamaaGreatDoor
namespace Go.Proofs.YtcpaaleogmiamaaGreatDoor
open Go.RowKit

set_option maxRecDepth 100000 in
/-- slices.Delete of one number, in a row that the call owns. -/
theorem Delete_own {w : World} {N g cap : Nat} {l : List Int} (h : w.ownsRow N 3 1 (.slice (some ⟨g, 0, none⟩) l.length cap) l.length (intCells l)) (i : Nat) (hi : i < l.length) :
    Calls Tryz.prog 179 #[.slice (some ⟨g, 0, none⟩) l.length cap, .int .i64 i, .int .i64 ((i + 1 : Nat) : Int)] w fun e w' => e = .returned (.slice (some ⟨g, 0, none⟩) (l.length - 1) cap) ∧
      w'.ownsRow N 3 1 (.slice (some ⟨g, 0, none⟩) (l.length - 1) cap) (l.length - 1) (intCells (l.eraseIdx i)) ∧ Upd (fun k => k = g) w w' := by
  rcases h.2 with ⟨h0, _⟩ | ⟨g', cap', cur, hv, hg, hb, hn, hcap, hcs, htk⟩
  · cases h0
  simp only [Value.slice.injEq, Option.some.injEq, Addr.mk.injEq, and_true, true_and] at hv
  obtain ⟨rfl, rfl⟩ := hv
  have hH : Sort.Holds (Value.int .i64) w g 0 l.toArray := by
    intro j hj
    have hj' : j < l.length := by simpa using hj
    refine ⟨?_, frozen_of hb⟩
    rw [Nat.zero_add, h.cellAt j (by omega), intCells_get l j hj']
    simp [hj']
  have hl63 : cap ≤ 9223372036854775807 := hcap
  refine (AnyG.slices_Delete_int Tryz.delA g 0 cap i (i + 1) l w hH hn hl63 (by omega) (by omega)).mono ?_
  rintro e w' ⟨rfl, q, rfl⟩
  have e1 : i + 1 - i = 1 := by omega
  rw [e1]
  obtain ⟨ts, hts⟩ : ∃ ts, ts = l.take i ++ l.drop (i + 1) ++ List.replicate 1 0 := ⟨_, rfl⟩
  rw [← hts]
  have hlen : ts.length = l.length := by rw [hts]; simp; omega
  have htake : ts.take (l.length - 1) = l.eraseIdx i := by
    rw [hts, List.eraseIdx_eq_take_drop_succ, List.take_append_of_le_length (by simp; omega)]
    exact List.take_of_length_le (by simp; omega)
  have hblk : (Sort.putRow (Value.int .i64) (Sort.ahead w q) g 0 ts.toArray).heap[g]? = some (.cells (Sort.putCells (Value.int .i64) 0 ts.toArray cur) 3 (0, 0)) := by
    simp [Sort.putRow, Sort.mapBlock, Sort.ahead, Array.getElem?_modify, hb, Sort.onCells]
  refine ⟨rfl, ⟨?_, .inr ⟨g, cap, _, rfl, hg, hblk, by omega, hcap, by simp [Sort.putCells, hcs], ?_⟩⟩, ?_⟩
  · rw [intCells_length, ← htake, List.length_take]; omega
  · have h2 := _root_.Go.take_putCellsI cur ts (by omega)
    rw [Nat.mul_one, ← htake]
    have h3 := congrArg (List.take (l.length - 1)) h2
    rw [List.take_take, Nat.min_eq_left (by omega), ← List.map_take] at h3
    exact h3
  · refine ⟨rfl, rfl, rfl, by simp [Sort.putRow, Sort.mapBlock, Sort.ahead], fun k hk hne => ?_⟩
    have : g ≠ k := fun e => hne e.symm
    simp [Sort.putRow, Sort.mapBlock, Sort.ahead, Array.getElem?_modify, this]

/-- What slices.Clone gives: nil, or a row of the call's own. -/
def ClonedTo (w : World) (e size : Nat) (n : Nat) (xs : List Value) (en : Ending) (w' : World) : Prop :=
  ∃ v', en = .returned v' ∧ w'.ownsRow w.heap.size e size v' n xs ∧ Below w.heap.size w w'

set_option maxRecDepth 100000 in
set_option maxHeartbeats 400000 in
theorem CloneInts_any {w : World} {v : Value} {l : List Int} (h : IntsRd w v l) (hl : l.length ≤ 1000000) : Calls Tryz.prog 73 #[v] w (ClonedTo w 3 1 l.length (intCells l)) := by
  rcases h.2 with ⟨rfl, h0⟩ | ⟨a, cap, rfl, h2, h3, h4⟩
  · have hl0 : l = [] := List.eq_nil_of_length_eq_zero h0
    subst hl0
    have hnil : ∀ w, (binOp .eql 22 (.slice none 0 0) (.slice none 0 0)).run Tryz.prog w = .ok (.bool true) w := fun w => Lib.run_eql_slice_nil w _ _ none 0 0 0 0 und_Ints
    go_enter Tryz.func73, Tryz.ntmps73
    go_wp2
    go_ret
    exact ⟨_, rfl, World.ownsRow_nil _ _ _ _, Below.refl _ _⟩
  · obtain ⟨i0, hi, hz0, hz1, hz2⟩ := info_parts info_Int
    have hcell : ∀ j u, (intCells l)[j]? = some u → (w.alloc (.cells #[] 3)).cell? (a.add j) = some u := by
      intro j u hu
      have hc := h4 j u hu
      rw [World.cell?_alloc_lt (h := World.block_lt_of_cell? w _ hc)]
      exact hc
    have hown0 := World.ownsRow_made (e := 3) (size := 1) (base := w.heap.size) w #[] 0 (Nat.le_refl _) (Nat.zero_le _) rfl
    have HO := Lib.hid hown0
    have H := Lib.hid hcell
    have H1 := Lib.hid (oneInts l)
    clear hcell h4 h h3 hown0
    have hnil : ∀ w, (binOp .eql 22 (.slice (some a) l.length cap) (.slice none 0 0)).run Tryz.prog w = .ok (.bool false) w := fun w => Lib.run_eql_slice_nil w _ _ _ _ _ 0 0 und_Ints
    go_enter Tryz.func73, Tryz.ntmps73
    go_wp2_with (at_builtin; refine wpList_append_own _ rfl _ _ 22 rfl w.heap.size 3 i0 _ 1 8 und_Ints hi hz0 hz1 hz2 rfl (by decide) (.slice (some ⟨w.heap.size, 0, none⟩) 0 0) 0 [] rfl HO.out a l.length cap (intCells l) rfl (intCells_length l) H.out H1.out ?_ ?_ ?_ ?_; (unfold maxLen; omega); omega; simp; intro v' w1 hown hgrow hnil')
    go_ret
    refine ⟨v', rfl, by simpa using hown, ?_⟩
    exact ((Below.refl _ w).alloc (Nat.le_refl _) _).grown hgrow (by simp) (fun k e => by simp [Value.ownBlock] at e; omega)

set_option maxRecDepth 100000 in
set_option maxHeartbeats 400000 in
theorem CloneLives_any {w : World} {v : Value} {l : List (Int × Int)} (h : LivesRd w v l) (hl : l.length ≤ 1000000) : Calls Tryz.prog 71 #[v] w (ClonedTo w 134 2 l.length (lifeCells l)) := by
  rcases h.2 with ⟨rfl, h0⟩ | ⟨a, cap, rfl, h2, h3, h4⟩
  · have hl0 : l = [] := List.eq_nil_of_length_eq_zero h0
    subst hl0
    have hnil : ∀ w, (binOp .eql 37 (.slice none 0 0) (.slice none 0 0)).run Tryz.prog w = .ok (.bool true) w := fun w => Lib.run_eql_slice_nil w _ _ none 0 0 0 0 und_Lives
    go_enter Tryz.func71, Tryz.ntmps71
    go_wp2
    go_ret
    exact ⟨_, rfl, World.ownsRow_nil _ _ _ _, Below.refl _ _⟩
  · obtain ⟨i0, hi, hz0, hz1, hz2⟩ := info_parts info_Life
    have hcell : ∀ j u, (lifeCells l)[j]? = some u → (w.alloc (.cells #[] 134)).cell? (a.add j) = some u := by
      intro j u hu
      have hc := h4 j u hu
      rw [World.cell?_alloc_lt (h := World.block_lt_of_cell? w _ hc)]
      exact hc
    have hown0 := World.ownsRow_made (e := 134) (size := 2) (base := w.heap.size) w #[] 0 (Nat.le_refl _) (Nat.zero_le _) rfl
    have HO := Lib.hid hown0
    have H := Lib.hid hcell
    have H1 := Lib.hid (oneLives l)
    clear hcell h4 h h3 hown0
    have hnil : ∀ w, (binOp .eql 37 (.slice (some a) l.length cap) (.slice none 0 0)).run Tryz.prog w = .ok (.bool false) w := fun w => Lib.run_eql_slice_nil w _ _ _ _ _ 0 0 und_Lives
    go_enter Tryz.func71, Tryz.ntmps71
    go_wp2_with (at_builtin; refine wpList_append_own _ rfl _ _ 37 rfl w.heap.size 134 i0 _ 2 16 und_Lives hi hz0 hz1 hz2 rfl (by decide) (.slice (some ⟨w.heap.size, 0, none⟩) 0 0) 0 [] rfl HO.out a l.length cap (lifeCells l) rfl (lifeCells_length l) H.out H1.out ?_ ?_ ?_ ?_; (unfold maxLen; omega); omega; simp; intro v' w1 hown hgrow hnil')
    go_ret
    refine ⟨v', rfl, by simpa using hown, ?_⟩
    exact ((Below.refl _ w).alloc (Nat.le_refl _) _).grown hgrow (by simp) (fun k e => by simp [Value.ownBlock] at e; omega)

set_option maxRecDepth 100000 in
set_option maxHeartbeats 400000 in
theorem CloneParts_any {w : World} {v : Value} {m : List (Value × Pt)} (h : Rd w 3 v m.length (partCells m)) (hone : ∀ u ∈ partCells m, u.oneCell' = true) (hl : m.length ≤ 1000000) :
    Calls Tryz.prog 72 #[v] w (ClonedTo w 36 3 m.length (partCells m)) := by
  rcases h.2 with ⟨rfl, h0⟩ | ⟨a, cap, rfl, h2, h3, h4⟩
  · have hl0 : m = [] := List.eq_nil_of_length_eq_zero h0
    subst hl0
    have hnil : ∀ w, (binOp .eql 50 (.slice none 0 0) (.slice none 0 0)).run Tryz.prog w = .ok (.bool true) w := fun w => Lib.run_eql_slice_nil w _ _ none 0 0 0 0 und_Parts
    go_enter Tryz.func72, Tryz.ntmps72
    go_wp2
    go_ret
    exact ⟨_, rfl, World.ownsRow_nil _ _ _ _, Below.refl _ _⟩
  · obtain ⟨i0, hi, hz0, hz1, hz2⟩ := info_parts info_Part
    have hcell : ∀ j u, (partCells m)[j]? = some u → (w.alloc (.cells #[] 36)).cell? (a.add j) = some u := by
      intro j u hu
      have hc := h4 j u hu
      rw [World.cell?_alloc_lt (h := World.block_lt_of_cell? w _ hc)]
      exact hc
    have hown0 := World.ownsRow_made (e := 36) (size := 3) (base := w.heap.size) w #[] 0 (Nat.le_refl _) (Nat.zero_le _) rfl
    have HO := Lib.hid hown0
    have H := Lib.hid hcell
    have H1 := Lib.hid hone
    clear hcell h4 h h3 hown0 hone
    have hnil : ∀ w, (binOp .eql 50 (.slice (some a) m.length cap) (.slice none 0 0)).run Tryz.prog w = .ok (.bool false) w := fun w => Lib.run_eql_slice_nil w _ _ _ _ _ 0 0 und_Parts
    go_enter Tryz.func72, Tryz.ntmps72
    go_wp2_with (at_builtin; refine wpList_append_own _ rfl _ _ 50 rfl w.heap.size 36 i0 _ 3 40 und_Parts hi hz0 hz1 hz2 rfl (by decide) (.slice (some ⟨w.heap.size, 0, none⟩) 0 0) 0 [] rfl HO.out a m.length cap (partCells m) rfl (partCells_length m) H.out H1.out ?_ ?_ ?_ ?_; (unfold maxLen; omega); omega; simp; intro v' w1 hown hgrow hnil')
    go_ret
    refine ⟨v', rfl, by simpa using hown, ?_⟩
    exact ((Below.refl _ w).alloc (Nat.le_refl _) _).grown hgrow (by simp) (fun k e => by simp [Value.ownBlock] at e; omega)
end Go.Proofs.YtcpaaleogmiamaaGreatDoor
namespace Go.Proofs.YtcpaaleogmiamaaGreatDoor
open Go.RowKit

theorem und_Recs4 : Tryz.prog.underlying 38 = some (.slice 84) := by kernel_rfl
theorem info_Rec4 : (Tryz.prog.info? 84).map (fun i => (i.zero, i.size, i.bytes)) = some (some (.agg #[.int .i64 0, .string ⟨#[]⟩, .string ⟨#[]⟩, .bool false]), 4, 48) := by kernel_rfl
theorem und_Batches6 : Tryz.prog.underlying 89 = some (.slice 40) := by kernel_rfl
theorem info_Batch6 : (Tryz.prog.info? 40).map (fun i => (i.zero, i.size, i.bytes)) = some (some (.agg #[.int .i64 0, .int .i64 0, .int .i64 0, .int .i64 0, .int .i64 0, .slice none 0 0]), 6, 64) := by kernel_rfl
theorem und_segs : Tryz.prog.underlying 159 = some (.slice 158) := by kernel_rfl
theorem info_seg : (Tryz.prog.info? 158).map (fun i => (i.zero, i.size, i.bytes)) = some (some (.agg #[.int .i64 0, .slice none 0 0, .int .i64 0]), 3, 40) := by kernel_rfl

theorem rd_one {w : World} {sz : Nat} {v : Value} {n : Nat} {xs : List Value} (h : Rd w sz v n xs) : v.oneCell' = true := by
  obtain ⟨a, c, rfl, -⟩ := Rd.shape h
  rfl
theorem recCells_len (l : List Rec) : (recCells l).length = l.length * 4 := by
  induction l with
  | nil => rfl
  | cons x l ih => simp only [recCells, List.flatMap_cons, List.length_append, List.length_cons] at ih ⊢; rw [ih]; simp [Rec.cells]; omega
theorem one_recs (l : List Rec) : ∀ u ∈ recCells l, u.oneCell' = true := by
  intro u hu
  obtain ⟨x, -, hx⟩ := List.mem_flatMap.1 hu
  simp only [Rec.cells, List.mem_cons, List.not_mem_nil, or_false] at hx
  rcases hx with rfl | rfl | rfl | rfl <;> rfl
theorem one_bs {m : List (Value × Batch)} (h : ∀ x ∈ m, x.1.oneCell' = true) : ∀ u ∈ bCells m, u.oneCell' = true := by
  intro u hu
  obtain ⟨x, hm, hx⟩ := List.mem_flatMap.1 hu
  simp only [List.mem_cons, List.not_mem_nil, or_false] at hx
  rcases hx with rfl | rfl | rfl | rfl | rfl | rfl
  all_goals first | rfl | exact h x hm
theorem one_sgs {m : List (Value × Sg)} (h : ∀ x ∈ m, x.1.oneCell' = true) : ∀ u ∈ sgCells m, u.oneCell' = true := by
  intro u hu
  obtain ⟨x, hm, hx⟩ := List.mem_flatMap.1 hu
  simp only [List.mem_cons, List.not_mem_nil, or_false] at hx
  rcases hx with rfl | rfl | rfl
  all_goals first | rfl | exact h x hm

set_option maxRecDepth 100000 in
set_option maxHeartbeats 400000 in
theorem CloneRecs_any {w : World} {v : Value} {l : List (Rec)} (h : RcsRd w v l) (hl : l.length ≤ 1000000000) :
    Calls Tryz.prog 88 #[v] w (ClonedTo w 84 4 l.length (recCells l)) := by
  rcases h.2 with ⟨rfl, h0⟩ | ⟨a, cap, rfl, h2, h3, h4⟩
  · have hl0 : l = [] := List.eq_nil_of_length_eq_zero h0
    subst hl0
    have hnil : ∀ w, (binOp .eql 38 (.slice none 0 0) (.slice none 0 0)).run Tryz.prog w = .ok (.bool true) w := fun w => Lib.run_eql_slice_nil w _ _ none 0 0 0 0 und_Recs4
    go_enter Tryz.func88, Tryz.ntmps88
    go_wp2
    go_ret
    exact ⟨_, rfl, World.ownsRow_nil _ _ _ _, Below.refl _ _⟩
  · obtain ⟨i0, hi, hz0, hz1, hz2⟩ := info_parts info_Rec4
    have hcell : ∀ j u, (recCells l)[j]? = some u → (w.alloc (.cells #[] 84)).cell? (a.add j) = some u := by
      intro j u hu
      have hc := h4 j u hu
      rw [World.cell?_alloc_lt (h := World.block_lt_of_cell? w _ hc)]
      exact hc
    have hown0 := World.ownsRow_made (e := 84) (size := 4) (base := w.heap.size) w #[] 0 (Nat.le_refl _) (Nat.zero_le _) rfl
    have hone := one_recs l
    have HO := Lib.hid hown0
    have H := Lib.hid hcell
    have H1 := Lib.hid hone
    clear hcell h4 h h3 hown0 hone
    have hnil : ∀ w, (binOp .eql 38 (.slice (some a) l.length cap) (.slice none 0 0)).run Tryz.prog w = .ok (.bool false) w := fun w => Lib.run_eql_slice_nil w _ _ _ _ _ 0 0 und_Recs4
    go_enter Tryz.func88, Tryz.ntmps88
    go_wp2_with (at_builtin; refine wpList_append_own _ rfl _ _ 38 rfl w.heap.size 84 i0 _ 4 48 und_Recs4 hi hz0 hz1 hz2 rfl (by decide) (.slice (some ⟨w.heap.size, 0, none⟩) 0 0) 0 [] rfl HO.out a l.length cap (recCells l) rfl (recCells_len l) H.out H1.out ?_ ?_ ?_ ?_; (unfold maxLen; omega); omega; simp; intro v' w1 hown hgrow hnil')
    go_ret
    refine ⟨v', rfl, by simpa using hown, ?_⟩
    exact ((Below.refl _ w).alloc (Nat.le_refl _) _).grown hgrow (by simp) (fun k e => by simp [Value.ownBlock] at e; omega)

set_option maxRecDepth 100000 in
set_option maxHeartbeats 400000 in
theorem CloneBs_any {w : World} {v : Value} {l : List (Value × Batch)} (h : Rd w 6 v l.length (bCells l)) (hone : ∀ u ∈ bCells l, u.oneCell' = true) (hl : l.length ≤ 1000000000) :
    Calls Tryz.prog 126 #[v] w (ClonedTo w 40 6 l.length (bCells l)) := by
  rcases h.2 with ⟨rfl, h0⟩ | ⟨a, cap, rfl, h2, h3, h4⟩
  · have hl0 : l = [] := List.eq_nil_of_length_eq_zero h0
    subst hl0
    have hnil : ∀ w, (binOp .eql 89 (.slice none 0 0) (.slice none 0 0)).run Tryz.prog w = .ok (.bool true) w := fun w => Lib.run_eql_slice_nil w _ _ none 0 0 0 0 und_Batches6
    go_enter Tryz.func126, Tryz.ntmps126
    go_wp2
    go_ret
    exact ⟨_, rfl, World.ownsRow_nil _ _ _ _, Below.refl _ _⟩
  · obtain ⟨i0, hi, hz0, hz1, hz2⟩ := info_parts info_Batch6
    have hcell : ∀ j u, (bCells l)[j]? = some u → (w.alloc (.cells #[] 40)).cell? (a.add j) = some u := by
      intro j u hu
      have hc := h4 j u hu
      rw [World.cell?_alloc_lt (h := World.block_lt_of_cell? w _ hc)]
      exact hc
    have hown0 := World.ownsRow_made (e := 40) (size := 6) (base := w.heap.size) w #[] 0 (Nat.le_refl _) (Nat.zero_le _) rfl
    have HO := Lib.hid hown0
    have H := Lib.hid hcell
    have H1 := Lib.hid hone
    clear hcell h4 h h3 hown0 hone
    have hnil : ∀ w, (binOp .eql 89 (.slice (some a) l.length cap) (.slice none 0 0)).run Tryz.prog w = .ok (.bool false) w := fun w => Lib.run_eql_slice_nil w _ _ _ _ _ 0 0 und_Batches6
    go_enter Tryz.func126, Tryz.ntmps126
    go_wp2_with (at_builtin; refine wpList_append_own _ rfl _ _ 89 rfl w.heap.size 40 i0 _ 6 64 und_Batches6 hi hz0 hz1 hz2 rfl (by decide) (.slice (some ⟨w.heap.size, 0, none⟩) 0 0) 0 [] rfl HO.out a l.length cap (bCells l) rfl (bCells_length l) H.out H1.out ?_ ?_ ?_ ?_; (unfold maxLen; omega); omega; simp; intro v' w1 hown hgrow hnil')
    go_ret
    refine ⟨v', rfl, by simpa using hown, ?_⟩
    exact ((Below.refl _ w).alloc (Nat.le_refl _) _).grown hgrow (by simp) (fun k e => by simp [Value.ownBlock] at e; omega)

set_option maxRecDepth 100000 in
set_option maxHeartbeats 400000 in
theorem Clonesegs_any {w : World} {v : Value} {l : List (Value × Sg)} (h : Rd w 3 v l.length (sgCells l)) (hone : ∀ u ∈ sgCells l, u.oneCell' = true) (hl : l.length ≤ 1000000000) :
    Calls Tryz.prog 150 #[v] w (ClonedTo w 158 3 l.length (sgCells l)) := by
  rcases h.2 with ⟨rfl, h0⟩ | ⟨a, cap, rfl, h2, h3, h4⟩
  · have hl0 : l = [] := List.eq_nil_of_length_eq_zero h0
    subst hl0
    have hnil : ∀ w, (binOp .eql 159 (.slice none 0 0) (.slice none 0 0)).run Tryz.prog w = .ok (.bool true) w := fun w => Lib.run_eql_slice_nil w _ _ none 0 0 0 0 und_segs
    go_enter Tryz.func150, Tryz.ntmps150
    go_wp2
    go_ret
    exact ⟨_, rfl, World.ownsRow_nil _ _ _ _, Below.refl _ _⟩
  · obtain ⟨i0, hi, hz0, hz1, hz2⟩ := info_parts info_seg
    have hcell : ∀ j u, (sgCells l)[j]? = some u → (w.alloc (.cells #[] 158)).cell? (a.add j) = some u := by
      intro j u hu
      have hc := h4 j u hu
      rw [World.cell?_alloc_lt (h := World.block_lt_of_cell? w _ hc)]
      exact hc
    have hown0 := World.ownsRow_made (e := 158) (size := 3) (base := w.heap.size) w #[] 0 (Nat.le_refl _) (Nat.zero_le _) rfl
    have HO := Lib.hid hown0
    have H := Lib.hid hcell
    have H1 := Lib.hid hone
    clear hcell h4 h h3 hown0 hone
    have hnil : ∀ w, (binOp .eql 159 (.slice (some a) l.length cap) (.slice none 0 0)).run Tryz.prog w = .ok (.bool false) w := fun w => Lib.run_eql_slice_nil w _ _ _ _ _ 0 0 und_segs
    go_enter Tryz.func150, Tryz.ntmps150
    go_wp2_with (at_builtin; refine wpList_append_own _ rfl _ _ 159 rfl w.heap.size 158 i0 _ 3 40 und_segs hi hz0 hz1 hz2 rfl (by decide) (.slice (some ⟨w.heap.size, 0, none⟩) 0 0) 0 [] rfl HO.out a l.length cap (sgCells l) rfl (sgCells_length l) H.out H1.out ?_ ?_ ?_ ?_; (unfold maxLen; omega); omega; simp; intro v' w1 hown hgrow hnil')
    go_ret
    refine ⟨v', rfl, by simpa using hown, ?_⟩
    exact ((Below.refl _ w).alloc (Nat.le_refl _) _).grown hgrow (by simp) (fun k e => by simp [Value.ownBlock] at e; omega)

/-- An owned row is read wherever its block stands. -/
theorem owns_inS {w : World} {N e size : Nat} {v : Value} {n : Nat} {xs : List Value} (h : w.ownsRow N e size v n xs) {S : Nat → Prop} (hS : ∀ g, v.ownBlock = some g → S g) : InS w S (fun W => Rd W size v n xs) := by
  refine (Sl.of_owns h).rd.inS (fun a k c e => ?_)
  rcases h.2 with ⟨h1, -⟩ | ⟨g, cap, cur, h1, -⟩
  · rw [h1] at e; cases e
  · rw [h1] at e
    simp only [Value.slice.injEq, Option.some.injEq] at e
    exact hS _ (by rw [h1, ← e.1]; rfl)

def bEl (x : Value × Batch) : List Value := [.int .i64 x.2.base, .int .i64 x.2.count, .int .i64 x.2.prod, .int .i64 x.2.seq, .int .i64 x.2.time, x.1]
theorem bEl_len (x : Value × Batch) : (bEl x).length = 6 := rfl
theorem bCells_el (m : List (Value × Batch)) : bCells m = m.flatMap bEl := rfl
def sgEl (x : Value × Sg) : List Value := [.int .i64 x.2.base, x.1, .int .i64 ((sgB x.2.list).length : Int)]
theorem sgEl_len (x : Value × Sg) : (sgEl x).length = 3 := rfl
theorem sgCells_el (m : List (Value × Sg)) : sgCells m = m.flatMap sgEl := rfl

/-- Batches in new memory. -/
def CopTo (w : World) (l : List Batch) (e : Ending) (w' : World) : Prop := ∃ v', e = .returned v' ∧ BsIn w' (fun k => w.heap.size ≤ k) v' l ∧ Below w.heap.size w w'

set_option maxRecDepth 100000 in
set_option maxHeartbeats 2000000 in
theorem Stcopied_any {w : World} {v : Value} {l : List Batch} (h : BsRd w v l) (hl : l.length ≤ 1000000000) (hr : ∀ b ∈ l, b.recs.length ≤ 1000000) : Calls Tryz.prog 124 #[v] w (CopTo w l) := by
  obtain ⟨m0, hm0, hrd, hrec⟩ := h
  have hlen : m0.length = l.length := by rw [← hm0, List.length_map]
  have hone : ∀ u ∈ bCells m0, u.oneCell' = true := one_bs (fun x hx => rd_one (hrec x hx))
  have hcl := CloneBs_any hrd hone (by omega)
  have HCL := Lib.hid hcl
  have HM := Lib.hid (And.intro hm0 hrec)
  have HR := Lib.hid hr
  clear hrd hone hcl hm0 hrec hr
  go_enter Tryz.func124, Tryz.ntmps124
  go_wp2_with fail
  refine HCL.out.mono ?_
  rintro _ w3 ⟨v3, rfl, hown3, hb3⟩
  obtain ⟨ga, gc, rfl, -⟩ := (Sl.of_owns hown3).shape
  rw [hlen] at hown3 ⊢
  have H3 := Lib.hid (And.intro hown3 hb3)
  clear hown3 hb3
  go_wp2
  go_loopg [4, 9] l.length (fun gk _ i wx => ∃ (k : Nat) (mk : List (Value × Batch)), k ≤ l.length ∧ gk = l.length - k ∧ i = .int .i64 k ∧ mk.map (·.2) = l ∧ wx.ownsRow w.heap.size 40 6 (.slice ga l.length gc) l.length (bCells mk) ∧
    (∀ j (hj : j < mk.length), j < k → InS wx (fun b => w.heap.size ≤ b ∧ (Value.slice ga l.length gc).ownBlock ≠ some b) (fun W => RcsRd W mk[j].1 mk[j].2.recs)) ∧ (∀ j (hj : j < mk.length), k ≤ j → RcsRd w mk[j].1 mk[j].2.recs) ∧ Below w.heap.size w wx)
  case atStart =>
    refine ⟨0, m0, Nat.zero_le _, rfl, rfl, HM.out.1, H3.out.1, fun j hj h0 => absurd h0 (Nat.not_lt_zero _), fun j hj _ => HM.out.2 _ (List.getElem_mem hj), H3.out.2⟩
  case round =>
    obtain ⟨k, mk, hk, rfl, rfl, hmk, hown, hdone, hrest, hbel⟩ := hrel
    have hmkl : mk.length = l.length := by rw [← hmk, List.length_map]
    by_cases hlt : k < l.length
    · have hkm : k < mk.length := by omega
      have hrk := hrest k hkm (Nat.le_refl _)
      rcases hown.2 with ⟨-, h0⟩ | ⟨g, cap, cur, hv, hg, hb, hn, hcap, hcs, htk⟩
      · omega
      simp only [Value.slice.injEq, true_and] at hv
      obtain ⟨rfl, rfl⟩ := hv
      obtain ⟨ra, rc, hra, -⟩ := Rd.shape hrk
      obtain ⟨g0, g1, g2, g3, g4, g5⟩ := bCells_get mk k hkm
      have c5 : wr.cell? ⟨g, k * 6 + 5, none⟩ = some mk[k].1 := by have := hown.cellAt (k * 6 + 5) (by omega); rw [this]; exact g5
      have f5 : wr.frozen? ⟨g, k * 6 + 5, none⟩ = false := frozen_of hb
      rw [hra] at c5 hrk
      have hlr : mk[k].2.recs.length ≤ 1000000 := HR.out _ (by rw [← hmk]; exact List.mem_map_of_mem (List.getElem_mem hkm))
      have hcr := CloneRecs_any (hrk.below hbel) (by omega)
      have i2 : (k : Int) < (l.length : Int) := by omega
      have i3 : (0 : Int) ≤ (k : Int) := by omega
      have hgl := (Array.getElem?_eq_some_iff.1 hb).1
      have hK : ∀ W, Below wr.heap.size wr W → W.cell? ⟨g, k * 6 + 5, none⟩ = some (.slice ra mk[k].2.recs.length rc) ∧ W.frozen? ⟨g, k * 6 + 5, none⟩ = false := fun W hW => ⟨below_some hW c5 hgl, frozen_of ((hW.block g hgl).trans hb)⟩
      have hFIN : ∀ W v5, Below wr.heap.size wr W → W.ownsRow wr.heap.size 84 4 v5 mk[k].2.recs.length (recCells mk[k].2.recs) → ∃ mk' : List (Value × Batch), mk'.map (·.2) = l ∧ (W.setCell ⟨g, k * 6 + 5, none⟩ v5).ownsRow w.heap.size 40 6 (.slice (some ⟨g, 0, none⟩) l.length gc) l.length (bCells mk') ∧
          (∀ j (hj : j < mk'.length), j < k + 1 → InS (W.setCell ⟨g, k * 6 + 5, none⟩ v5) (fun b => w.heap.size ≤ b ∧ (Value.slice (some ⟨g, 0, none⟩) l.length gc).ownBlock ≠ some b) (fun W => RcsRd W mk'[j].1 mk'[j].2.recs)) ∧ (∀ j (hj : j < mk'.length), k + 1 ≤ j → RcsRd w mk'[j].1 mk'[j].2.recs) ∧ Below w.heap.size w (W.setCell ⟨g, k * 6 + 5, none⟩ v5) := by
        intro W v5 hW ho5
        have hset := upd_set1 W g (k * 6 + 5) v5
        have hownW := owns_upd hown (Upd.of_below (F := fun _ => False) hW) (fun _ _ h => h)
        refine ⟨mk.set k (v5, mk[k].2), ?_, ?_, ?_, ?_, ?_⟩
        · rw [← hmk]
          apply List.ext_getElem
          · simp
          · intro j h1 h2
            simp only [List.getElem_map, List.getElem_set]
            split
            · rename_i e; subst e; rfl
            · rfl
        · have h1 := (hownW.stored (k * 6 + 5) v5).1
          rw [bCells_el, fl_set bEl_len mk k hkm 5 (by decide) v5 (v5, mk[k].2) rfl] at h1
          exact h1
        · intro j hj hjk
          have hj' : j < mk.length := by simpa using hj
          simp only [List.getElem_set]
          by_cases e : k = j
          · subst e
            simp only [if_true]
            have h1 : InS W (fun b => w.heap.size ≤ b ∧ (Value.slice (some ⟨g, 0, none⟩) l.length gc).ownBlock ≠ some b) (fun X => RcsRd X v5 mk[k].2.recs) := owns_inS ho5 (fun b hb5 => ⟨by have := (owns_lt ho5 b hb5).1; have := hbel.size; omega, fun e => by
              simp only [Value.ownBlock, Option.some.injEq] at e
              subst e
              have := (owns_lt ho5 _ hb5).1
              omega⟩)
            exact h1.upd hset (fun b hb5 _ e => hb5.2 (by rw [e]; rfl))
          · simp only [if_neg e]
            exact ((hdone j hj' (by omega)).below hW).upd hset (fun b hb5 _ e => hb5.2 (by rw [e]; rfl))
        · intro j hj hjk
          have hj' : j < mk.length := by simpa using hj
          simp only [List.getElem_set]
          rw [if_neg (by omega)]
          exact hrest j hj' (by omega)
        · exact (hbel.trans (hW.mono hbel.size)).trans (hset.toBelow (by have := hW.size; have := hbel.size; omega) (fun b e => by omega))
      have HK := Lib.hid hK
      have HFI := Lib.hid hFIN
      have HCR := Lib.hid hcr
      clear hrk hown hdone hrest hbel hb htk hcs hra g0 g1 g2 g3 g4 g5 hK hFIN hcr hg
      generalize mk[k] = y at *
      go_wp2_with fail
      refine HCR.out.mono ?_
      rintro _ w5 ⟨v5, rfl, ho5, hb5⟩
      obtain ⟨xa, xc, rfl, -⟩ := (Sl.of_owns ho5).shape
      obtain ⟨c6, f6⟩ := HK.out w5 hb5
      have hfin := HFI.out w5 _ hb5 ho5
      have HFN := Lib.hid hfin
      clear ho5 hb5 hfin c5 f5
      go_wp2
      go_roundg (l.length - (k + 1))
      case measure => omega
      case rel =>
        obtain ⟨mk', n1, n2, n3, n4, n5⟩ := HFN.out
        exact ⟨k + 1, mk', by omega, rfl, by go_num, n1, n2, n3, n4, n5⟩
    · have i2 : ¬ (k : Int) < (l.length : Int) := by omega
      have hfin : BsIn wr (fun b => w.heap.size ≤ b) (.slice ga l.length gc) l := by
        have h1 := owns_inS hown (S := fun b => w.heap.size ≤ b) (fun b hb => (owns_lt hown b hb).1)
        refine ⟨mk, hmk, by rw [hmkl]; exact h1, fun x hx => ?_⟩
        obtain ⟨j, hj, rfl⟩ := List.mem_iff_getElem.1 hx
        exact (hdone j hj (by omega)).grow (fun b hb _ => hb.1)
      have HFIN := Lib.hid (And.intro hfin hbel)
      clear hown hdone hrest hbel hfin
      go_wp2
      go_ret
      exact ⟨_, rfl, HFIN.out.1, HFIN.out.2⟩
end Go.Proofs.YtcpaaleogmiamaaGreatDoor
