/- The walk of flock.Apply. -/
import Derived.Test.YtdchjepahgecgaaGreatDoorMq26
import Derived.Deep.CutBlock
namespace Go.Proofs.YtdchjepahgecgaaGreatDoor
open Go.RowKit

/-- A list of groups, all its words the call's own. -/
def OwnFk (w : World) (N : Nat) (v : Value) (L : List Fk) : Prop := ∃ m : List Fv, m.map (·.2.2) = L ∧ OwnF w N v m
theorem OwnFk.rd {w : World} {N : Nat} {v : Value} {L : List Fk} (h : OwnFk w N v L) : FksRd w v L := by
  obtain ⟨m, rfl, ho⟩ := h
  exact ho.rd
theorem OwnFk.mono {w : World} {N N' : Nat} {v : Value} {L : List Fk} (h : OwnFk w N v L) (hn : N' ≤ N) : OwnFk w N' v L := by
  obtain ⟨m, hm, ho⟩ := h
  exact ⟨m, hm, OwnG.mono ho hn⟩
theorem OwnFk.below {w w' : World} {N : Nat} {v : Value} {L : List Fk} (h : OwnFk w N v L) (hb : Below w.heap.size w w') : OwnFk w' N v L := by
  obtain ⟨m, hm, ho⟩ := h
  exact ⟨m, hm, OwnG.below ho hb⟩
theorem OwnFk.low {w w' : World} {F : Nat → Prop} {N : Nat} {v : Value} {L : List Fk} (h : OwnFk w N v L) (hu : Upd F w w') (hF : ∀ k, F k → k < N) : OwnFk w' N v L := by
  obtain ⟨m, hm, ho⟩ := h
  exact ⟨m, hm, OwnG.low ho hu hF⟩
theorem OwnFk.nil (w : World) (N : Nat) : OwnFk w N (.slice none 0 0) [] := ⟨[], rfl, World.ownsRow_nil _ _ _ _, fun i hi => absurd hi (Nat.not_lt_zero i), fun i hi => absurd hi (Nat.not_lt_zero i), fun i _ hi => absurd hi (Nat.not_lt_zero i)⟩
def ApplyTo (w : World) (L : List Fk) (e : Ending) (w' : World) : Prop := ∃ v, e = .returned v ∧ OwnFk w' w.heap.size v L ∧ Below w.heap.size w w'

theorem OwnF.fv {w : World} {N : Nat} {v : Value} {m : List Fv} (h : OwnF w N v m) : Rd w 5 v m.length (fkCells m) ∧ ∀ x ∈ m, FvRd w x :=
  ⟨(Sl.of_owns h.own).rd, fun x hx => by obtain ⟨i, hi, rfl⟩ := List.mem_iff_getElem.1 hx; exact ⟨Strs.of_owns (h.mem i hi hi), PtsRd.of_owns (h.pts i hi hi)⟩⟩

/-- What stands ahead of Apply's switch. -/
structure ApAt (w W : World) (oa : Option Addr) (oc : Nat) (m : List Fv) (q : Wd) (ma : Option Addr) (mc : Nat) (B F : Nat) (y : Value) : Prop where
  own : OwnF W (w.heap.size + 1) (.slice oa m.length oc) m
  mem : W.ownsRow (w.heap.size + 1) 9 1 (.slice ma q.members.length mc) q.members.length (strCells q.members)
  box : W.heap[B]? = some (.cells #[.int .u8 (q.kind.toNat : Int), .string (bs q.group), .int .i64 q.gen, .int .i64 q.parts, .slice ma q.members.length mc, .int .i64 q.part, .int .i64 q.off, .int .i64 q.code] 60 (0, 0))
  bel : Below w.heap.size w W
  sz : w.heap.size + 1 ≤ W.heap.size

theorem ApAt.below {w W W' : World} {oa : Option Addr} {oc : Nat} {m : List Fv} {q : Wd} {ma : Option Addr} {mc B F : Nat} {y : Value} (h : ApAt w W oa oc m q ma mc B F y) (hb : Below W.heap.size W W') : ApAt w W' oa oc m q ma mc B F y where
  own := h.own.below hb
  mem := owns_upd h.mem (Upd.of_below (F := fun _ => False) hb) (fun _ _ h => h)
  box := (hb.block _ (Array.getElem?_eq_some_iff.1 h.box).1).trans h.box
  bel := h.bel.trans (hb.mono h.bel.size)
  sz := Nat.le_trans h.sz hb.size

set_option maxRecDepth 100000 in
set_option maxHeartbeats 4000000 in
theorem apply_yes {w : World} {v : Value} {m0 : List Fv} {L : List Fk} (h : Rd w 5 v m0.length (fkCells m0)) (hf : ∀ x ∈ m0, FvRd w x) (hmp0 : m0.map (·.2.2) = L) (hs : SmallL L) (hup : FkUp L) (hpu : ∀ y ∈ L, PtUp y.points) (hpl : ∀ y ∈ L, y.points.length ≤ 900)
    (key val : List UInt8) (gone : Bool) (off : Int) (hk : key.length ≤ 100000) (hv : val.length ≤ 100000) (hE : Env w) {q : Wd} {ok : Bool} (hq : readP key val gone = (q, ok)) {k : Nat} (hk0 : fkAt L q.group = k) (hb : hasFk L q.group = true) {y : Fk} (hy : L[k]? = some y) :
    Calls Tryz.prog 10 #[v, .agg #[.int .i64 off, .string (bs key), .string (bs val), .bool gone]] w (ApplyTo w (applyW L q)) := by
  have hb1 := below_alloc w (.cells #[.int .i64 off, .string (bs key), .string (bs val), .bool gone] 28)
  obtain ⟨wa, hwa⟩ : ∃ wa, wa = w.alloc (.cells #[.int .i64 off, .string (bs key), .string (bs val), .bool gone] 28) := ⟨_, rfl⟩
  have hX : wa.heap[w.heap.size]? = some (.cells #[.int .i64 off, .string (bs key), .string (bs val), .bool gone] 28 (0, 0)) := by rw [hwa]; exact heap_alloc_new _ _
  have hsa : wa.heap.size = w.heap.size + 1 := by rw [hwa]; simp
  rw [← hwa] at hb1
  have hxk : ∀ W, Below wa.heap.size wa W → (W.cell? ⟨w.heap.size, 0, none⟩ = some (.int .i64 off) ∧ W.cell? ⟨w.heap.size, 1, none⟩ = some (.string (bs key)) ∧ W.cell? ⟨w.heap.size, 2, none⟩ = some (.string (bs val)) ∧ W.cell? ⟨w.heap.size, 3, none⟩ = some (.bool gone)) ∧ Below w.heap.size w W ∧
      Calls Tryz.prog 23 #[.agg #[.int .i64 off, .string (bs key), .string (bs val), .bool gone]] W fun e w' => ∃ (ma : Option Addr) (mc : Nat), e = .returned (.tuple #[.agg #[.int .u8 (q.kind.toNat : Int), .string (bs q.group), .int .i64 q.gen, .int .i64 q.parts, .slice ma q.members.length mc, .int .i64 q.part, .int .i64 q.off, .int .i64 q.code], .bool ok]) ∧
        w'.ownsRow W.heap.size 9 1 (.slice ma q.members.length mc) q.members.length (strCells q.members) ∧ Below W.heap.size W w' := by
    intro W hbW
    have h2 := (hbW.block w.heap.size (by omega)).trans hX
    have h3 := hb1.trans (hbW.mono (by omega))
    exact ⟨⟨cells_of h2 0 _ rfl, cells_of h2 1 _ rfl, cells_of h2 2 _ rfl, cells_of h2 3 _ rfl⟩, h3, (by have hr := read_all key val gone off hk hv (hE.below h3); rw [hq] at hr; exact hr)⟩
  have hcp : Calls Tryz.prog 22 #[v] wa fun e w' => ∃ (oa : Option Addr) (oc : Nat) (m : List Fv), e = .returned (.slice oa m.length oc) ∧ m.map (·.2.2) = L ∧ OwnF w' (w.heap.size + 1) (.slice oa m.length oc) m ∧ Below wa.heap.size wa w' := by
    refine (copied_any (h.below hb1) (fun x hx => (hf x hx).below hb1) (by rw [hmp0]; exact hs)).mono ?_
    rintro e w' ⟨v', m, rfl, hm, ho, hbx⟩
    obtain ⟨oa, oc, rfl, -⟩ := (Sl.of_owns ho.own).shape
    rw [hsa] at ho
    exact ⟨oa, oc, m, rfl, by rw [hm, hmp0], ho, hbx⟩
  have hL1 := hs.len
  have hthe : theF L q.group = y := by simp [theF, hb, hk0, hy, List.getD]
  have HSA := Lib.hid hsa
  have HXK := Lib.hid hxk
  have HCP := Lib.hid hcp
  have HG := Lib.hid (And.intro hup (And.intro hpu (And.intro hpl (And.intro hk0 (And.intro hb (And.intro hy hthe))))))
  clear hxk hcp h hf hX hb1 hsa hpu hpl hk0 hb hy hthe hq hE hk hv hmp0 hs
  go_enter Tryz.func10, Tryz.ntmps10
  go_upto_block 0 with (first
    | (rw [← hwa]; clear hwa; go_at_call 22; refine HCP.out.mono ?_; rintro _ w2 ⟨oa, oc, m, rfl, hm2, ho2, hb2⟩; obtain ⟨⟨x0, x1, x2, x3⟩, hbw2, hrd2⟩ := HXK.out w2 hb2; have hz2 : w.heap.size + 1 ≤ w2.heap.size := (by have h1 := hb2.size; have h2 := HSA.out; omega); have H2 := Lib.hid (And.intro hm2 (And.intro ho2 (And.intro hbw2 (And.intro hrd2 hz2)))); clear hm2 ho2 hb2 hbw2 hrd2 hz2)
    | (go_at_call 23; refine H2.out.2.2.2.1.mono ?_; rintro _ w3 ⟨ma, mc, rfl, hmem3, hb3⟩; have hbb : Below w2.heap.size w2 (w3.alloc (.cells #[.int .u8 (q.kind.toNat : Int), .string (bs q.group), .int .i64 q.gen, .int .i64 q.parts, .slice ma q.members.length mc, .int .i64 q.part, .int .i64 q.off, .int .i64 q.code] 60)) := hb3.alloc hb3.size _; have hA3 : ApAt w (w3.alloc (.cells #[.int .u8 (q.kind.toNat : Int), .string (bs q.group), .int .i64 q.gen, .int .i64 q.parts, .slice ma q.members.length mc, .int .i64 q.part, .int .i64 q.off, .int .i64 q.code] 60)) oa oc m q ma mc w3.heap.size 0 (.bool true) := ⟨H2.out.2.1.below hbb, owns_mono (hmem3.alloc _) H2.out.2.2.2.2, heap_alloc_new _ _, H2.out.2.2.1.trans (hbb.mono H2.out.2.2.1.size), Nat.le_trans H2.out.2.2.2.2 hbb.size⟩; have g1 := cells_of hA3.box 1 _ rfl; have H3 := Lib.hid hA3; clear hA3 hmem3 hb3 hbb)
    | (go_at_call 24; refine (the_yes (OwnF.fv H3.out.own).1 (OwnF.fv H3.out.own).2 H2.out.1 HG.out.1 hL1 HG.out.2.2.2.2.1 HG.out.2.2.2.1 HG.out.2.2.2.2.2.1).mono ?_; rintro _ w4 ⟨hb4, hkm, ma4, mc4, pa4, pc4, hmk, rfl⟩; have hA4 := H3.out.below (hb4.alloc hb4.size (.cells #[.string (bs y.name), .int .i64 y.gen, .int .i64 y.parts, .slice ma4 y.members.length mc4, .slice pa4 y.points.length pc4] 44)); have hx4 := heap_alloc_new w4 (.cells #[.string (bs y.name), .int .i64 y.gen, .int .i64 y.parts, .slice ma4 y.members.length mc4, .slice pa4 y.points.length pc4] 44); have g1 := cells_of hA4.box 1 _ rfl; have hlt4 : w4.heap.size < (w4.alloc (.cells #[.string (bs y.name), .int .i64 y.gen, .int .i64 y.parts, .slice ma4 y.members.length mc4, .slice pa4 y.points.length pc4] 44)).heap.size := (by simp); have H4 := Lib.hid (And.intro hA4 (And.intro hx4 (And.intro hlt4 hmk))); clear hA4 hb4 hx4 hlt4 hmk)
    | (go_at_call 25; refine (find_any ⟨m, H2.out.1, (OwnF.fv H4.out.1.own).1, (OwnF.fv H4.out.1.own).2⟩ HG.out.1 hL1 q.group).mono ?_; rintro _ w5 ⟨rfl, hb5⟩; rw [HG.out.2.2.2.1, HG.out.2.2.2.2.1]; have hA5 := H4.out.1.below hb5; have hx5 := (hb5.block w4.heap.size H4.out.2.2.1).trans H4.out.2.1; have H5 := Lib.hid (And.intro hA5 hx5); clear hA5 hx5 hb5))
  obtain ⟨hkm, hmk⟩ : ∃ hkm : k < m.length, m[k] = (.slice ma4 y.members.length mc4, .slice pa4 y.points.length pc4, y) := ⟨hkm, H4.out.2.2.2⟩
  obtain ⟨g, rfl⟩ : ∃ g, oa = some ⟨g, 0, none⟩ := by
    rcases H5.out.1.own.own.2 with ⟨h1, h2⟩ | ⟨g, cap, cur, h1, -⟩
    · omega
    · simp only [Value.slice.injEq] at h1; exact ⟨g, h1.1⟩
  have b0 := cells_of H5.out.1.box 0 _ rfl
  have b2 := cells_of H5.out.1.box 2 _ rfl
  have b3 := cells_of H5.out.1.box 3 _ rfl
  have b4 := cells_of H5.out.1.box 4 _ rfl
  have b5 := cells_of H5.out.1.box 5 _ rfl
  have b6 := cells_of H5.out.1.box 6 _ rfl
  have y1 := cells_of H5.out.2 1 _ rfl
  have y4 := cells_of H5.out.2 4 _ rfl
  have i1 : (k : Int) < (m.length : Int) := by omega
  have i2 : (0 : Int) ≤ (k : Int) := by omega
  have hmap := H2.out.1
  have hset : ∀ z : Fk, (m.map (·.2.2)).set k z = L.set k z := fun z => by rw [hmap]
  have HMK := Lib.hid hmk
  have HSET := Lib.hid hset
  have hset1 : ∀ (mv pv : Value) (z : Fk), (m.set k (mv, pv, z)).map (·.2.2) = L.set k z := fun mv pv z => by rw [List.map_set, hset]
  have HS1 := Lib.hid hset1
  have hw0 : ∀ r u, (fkEl m[k])[r]? = some u → w5.cell? ⟨g, k * 5 + r, none⟩ = some u ∧ w5.frozen? ⟨g, k * 5 + r, none⟩ = false := fun r u hu => H5.out.1.own.word rfl k hkm r u hu
  rw [hmk] at hw0
  have HW0 := Lib.hid hw0
  clear hmk hmap hset hset1 hw0 x0 x1 x2 x3 H3 H4 HXK HCP
  by_cases c1 : q.kind = 116
  · have c1' : (q.kind.toNat : Int) = 116 := by rw [c1]; rfl
    have C1 := Lib.hid c1
    clear c1
    by_cases c2 : IntKind.i64.wrap (q.gen - 1) = y.gen
    · have hT : turns L q = true := by simp [turns, C1.out, HG.out.2.2.2.2.2.2, c2, HG.out.2.2.2.2.1]
      have hR : applyW L q = L.set k ⟨y.name, q.gen, q.parts, q.members, y.points⟩ := by simp only [applyW, hT, if_true, HG.out.2.2.2.2.1, HG.out.2.2.2.1, HG.out.2.2.2.2.2.2]
      have c2' : wrap64 (q.gen - 1) = y.gen := by rw [← IntWalk.i64_left]; exact c2
      have HR := Lib.hid hR
      obtain ⟨z1, f1⟩ := HW0.out 1 _ rfl
      obtain ⟨z2, f2⟩ := HW0.out 2 _ rfl
      obtain ⟨z3, f3⟩ := HW0.out 3 _ rfl
      clear hT hR
      go_upto_region 8 with fail
      go_region
      all_goals
        have ht := OwnG.turn H5.out.1.own rfl k hkm q.gen q.parts (.slice ma q.members.length mc) q.members H5.out.1.mem
        rw [HMK.out] at ht
        have hrd : OwnFk _ w.heap.size _ _ := ⟨_, HS1.out _ _ _, OwnG.mono ht (Nat.le_succ _)⟩
        have hgN := (owns_lt H5.out.1.own.own g rfl)
        have hbz := H5.out.1.bel.size
        have hbl := H5.out.1.bel.trans ((((upd_set1 w5 g (k * 5 + 1) (.int .i64 q.gen)).trans (upd_set1 _ g (k * 5 + 2) (.int .i64 q.parts))).trans (upd_set1 _ g (k * 5 + 3) (.slice ma q.members.length mc))).toBelow hbz (fun b e => by omega))
        have HZ := Lib.hid (And.intro (hrd.below (Below.refl _ _).drew) (hbl.trans ((Below.refl _ _).drew.mono hbl.size)))
        clear ht hrd hbl
        go_wp2
        go_ret
        exact ⟨_, rfl, by rw [HR.out]; exact HZ.out.1, HZ.out.2⟩
    · have hT : turns L q = false := by simp [turns, HG.out.2.2.2.2.2.2, c2]
      have hP : points L q = false := by simp [points, C1.out]
      have hR : applyW L q = L := by simp [applyW, hT, hP]
      have c2' : ¬ wrap64 (q.gen - 1) = y.gen := by rw [← IntWalk.i64_left]; exact c2
      have c2b : (wrap64 (q.gen - 1) == y.gen) = false := beq_eq_false_iff_ne.2 c2'
      have HR := Lib.hid hR
      clear hR hT hP
      go_wp2
      go_ret
      exact ⟨_, rfl, by rw [HR.out]; exact ⟨m, H2.out.1, H5.out.1.own.mono (Nat.le_succ _)⟩, H5.out.1.bel⟩
  · have c1' : ¬ (q.kind.toNat : Int) = 116 := byte_ne_nat (d := 116) c1
    have c1b : ((q.kind.toNat : Int) == 116) = false := beq_eq_false_iff_ne.2 c1'
    have hT : turns L q = false := by simp [turns, c1]
    by_cases c3 : q.kind = 99
    · have c3' : (q.kind.toNat : Int) = 99 := by rw [c3]; rfl
      have C3 := Lib.hid c3
      clear c3
      by_cases c4 : q.gen = y.gen
      · have hP : points L q = true := by simp [points, C3.out, HG.out.2.2.2.2.2.2, c4, HG.out.2.2.2.2.1]
        have hR : applyW L q = L.set k ⟨y.name, y.gen, y.parts, y.members, pointedP y.points (q.part, q.off)⟩ := by simp only [applyW, hT, hP, if_true, Bool.false_eq_true, if_false, HG.out.2.2.2.1, HG.out.2.2.2.2.2.2]
        have hyL : y ∈ L := List.mem_of_getElem? HG.out.2.2.2.2.2.1
        have hN5 : w.heap.size + 1 ≤ w5.heap.size := by have := (owns_lt H5.out.1.own.own g rfl); omega
        have hpt := H5.out.1.own.pts k hkm hkm
        rw [HMK.out] at hpt
        have hpc := pointed_any hpt hN5 (HG.out.2.1 y hyL) (HG.out.2.2.1 y hyL) q.part q.off
        have HPC := Lib.hid hpc
        have HR := Lib.hid hR
        obtain ⟨z4, f4⟩ := HW0.out 4 _ rfl
        clear hT hP hR hpt hpc
        go_wp2_with (first | (go_at_call 27; refine HPC.out.mono ?_; rintro _ w6 ⟨pa', pc', rfl, ho6, hu6, hn6⟩; obtain ⟨hcell, hfin⟩ := OwnG.point H5.out.1.own rfl k hkm hN5 (w' := w6) (by rw [HMK.out]; exact hu6) (.slice pa' (pointedP y.points (q.part, q.off)).length pc') (pointedP y.points (q.part, q.off)) ho6 (by rw [HMK.out]; exact hn6); obtain ⟨z64, f64⟩ := hcell 4 (.slice pa4 y.points.length pc4) (by rw [HMK.out]; rfl); have H6 := Lib.hid (And.intro hfin hu6); clear hcell hfin ho6 hu6 hn6))
        go_ret
        obtain ⟨hfin, hu6⟩ := H6.out
        rw [HMK.out] at hfin
        have hrd : OwnFk _ w.heap.size _ _ := ⟨_, HS1.out _ _ _, OwnG.mono hfin (Nat.le_succ _)⟩
        have hpt := H5.out.1.own.pts k hkm hkm
        rw [HMK.out] at hpt
        have hbz := H5.out.1.bel.size
        have hgN := (owns_lt H5.out.1.own.own g rfl)
        have hb6 : Below w.heap.size w w6 := H5.out.1.bel.trans (hu6.toBelow hbz (fun b e => by have := (owns_lt hpt b e.symm).1; omega))
        exact ⟨_, rfl, by rw [HR.out]; exact hrd, hb6.trans ((upd_set1 w6 g (k * 5 + 4) _).toBelow hb6.size (fun b e => by omega))⟩
      · have hP : points L q = false := by simp [points, HG.out.2.2.2.2.2.2, c4]
        have hR : applyW L q = L := by simp [applyW, hT, hP]
        have c4b : (q.gen == y.gen) = false := beq_eq_false_iff_ne.2 c4
        have HR := Lib.hid hR
        clear hR hT hP
        go_wp2
        go_ret
        exact ⟨_, rfl, by rw [HR.out]; exact ⟨m, H2.out.1, H5.out.1.own.mono (Nat.le_succ _)⟩, H5.out.1.bel⟩
    · have c3' : ¬ (q.kind.toNat : Int) = 99 := byte_ne_nat (d := 99) c3
      have c3b : ((q.kind.toNat : Int) == 99) = false := beq_eq_false_iff_ne.2 c3'
      have hP : points L q = false := by simp [points, c3]
      have hR : applyW L q = L := by simp [applyW, hT, hP]
      have HR := Lib.hid hR
      clear hR hT hP
      go_wp2
      go_ret
      exact ⟨_, rfl, by rw [HR.out]; exact ⟨m, H2.out.1, H5.out.1.own.mono (Nat.le_succ _)⟩, H5.out.1.bel⟩
end Go.Proofs.YtdchjepahgecgaaGreatDoor
