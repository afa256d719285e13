/- The walk of flock.Apply where there is no such group. -/
import Derived.Test.YtdchjepahgecgaaGreatDoorMq32
namespace Go.Proofs.YtdchjepahgecgaaGreatDoor
open Go.RowKit

theorem owns_box_ne {w : World} {N e sz B n : Nat} {v : Value} {xs : List Value} {cs : Array Value} {T : TypeId} {fz : Nat × Nat} (h : w.ownsRow N e sz v n xs) (hbx : w.heap[B]? = some (.cells cs T fz)) (hne : T ≠ e) : ∀ g, v.ownBlock = some g → g ≠ B := by
  intro g hg eB
  subst eB
  rcases h.2 with ⟨h0, _⟩ | ⟨g', cap, cur, hv, _, h3, _⟩
  · rw [h0] at hg; cases hg
  · rw [hv] at hg
    simp only [Value.ownBlock, Option.some.injEq] at hg
    subst hg
    rw [hbx] at h3
    simp only [Option.some.injEq, Obj.cells.injEq] at h3
    exact hne h3.2.1

theorem ins_get {α : Type} (m : List α) (y : α) (k : Nat) (hk : k ≤ m.length) (i : Nat) (hi : i < (m.take k ++ y :: m.drop k).length) :
    (∃ (h : i < m.length), i < k ∧ (m.take k ++ y :: m.drop k)[i] = m[i]) ∨ (i = k ∧ (m.take k ++ y :: m.drop k)[i] = y) ∨ (∃ (h : i - 1 < m.length), k < i ∧ (m.take k ++ y :: m.drop k)[i] = m[i - 1]) := by
  have hl : (m.take k).length = k := by rw [List.length_take]; omega
  have hlen : (m.take k ++ y :: m.drop k).length = m.length + 1 := by simp; omega
  by_cases h1 : i < k
  · left
    refine ⟨by omega, h1, ?_⟩
    rw [List.getElem_append_left (by omega), List.getElem_take]
  · by_cases h2 : i = k
    · right; left
      refine ⟨h2, ?_⟩
      subst h2
      rw [List.getElem_append_right (by omega)]
      simp [hl]
    · right; right
      refine ⟨by omega, by omega, ?_⟩
      rw [List.getElem_append_right (by omega)]
      obtain ⟨d, hd⟩ : ∃ d, i = k + 1 + d := ⟨i - k - 1, by omega⟩
      subst hd
      simp only [hl, show k + 1 + d - k = d + 1 by omega, List.getElem_cons_succ, List.getElem_drop, show k + 1 + d - 1 = k + d by omega]

/-- A group comes into the row. -/
theorem OwnG.insert {w w' : World} {N : Nat} {v v' : Value} {m : List Fv} (h : OwnF w N v m) (hu : Upd (fun b => some b = v.ownBlock) w w') (k : Nat) (hk : k ≤ m.length) (y : Fv) (h1 : y.1 = .slice none 0 0) (h2 : y.2.2.members = []) (h3 : y.2.1 = .slice none 0 0) (h4 : y.2.2.points = [])
    (hown : w'.ownsRow N 44 5 v' (m.length + 1) (fkCells (m.take k ++ y :: m.drop k))) : OwnF w' N v' (m.take k ++ y :: m.drop k) := by
  have hlen : (m.take k ++ y :: m.drop k).length = m.length + 1 := by simp; omega
  have hmem : ∀ i (hi : i < m.length), w'.ownsRow N 9 1 m[i].1 m[i].2.2.members.length (strCells m[i].2.2.members) := fun i hi => owns_upd (h.mem i hi hi) hu (fun g' hg e => owns_types (h.mem i hi hi) h.own (by decide) g' hg e)
  have hpts : ∀ i (hi : i < m.length), w'.ownsRow N 58 2 m[i].2.1 m[i].2.2.points.length (ptCells m[i].2.2.points) := fun i hi => owns_upd (h.pts i hi hi) hu (fun g' hg e => owns_types (h.pts i hi hi) h.own (by decide) g' hg e)
  refine ⟨by rw [hlen]; exact hown, ?_, ?_, ?_⟩
  · intro i hi _
    rcases ins_get m y k hk i hi with ⟨hl, -, e⟩ | ⟨-, e⟩ | ⟨hl, -, e⟩
    · rw [e]; exact hmem _ hl
    · rw [e, h1, h2]; exact World.ownsRow_nil _ _ _ _
    · rw [e]; exact hmem _ hl
  · intro i hi _
    rcases ins_get m y k hk i hi with ⟨hl, -, e⟩ | ⟨-, e⟩ | ⟨hl, -, e⟩
    · rw [e]; exact hpts _ hl
    · rw [e, h3, h4]; exact World.ownsRow_nil _ _ _ _
    · rw [e]; exact hpts _ hl
  · intro i j hi hj _ _ hne g hg
    rcases ins_get m y k hk i hi with ⟨hl, hik, e⟩ | ⟨hik, e⟩ | ⟨hl, hik, e⟩
    · rw [e] at hg
      rcases ins_get m y k hk j hj with ⟨hl', hjk, e'⟩ | ⟨hjk, e'⟩ | ⟨hl', hjk, e'⟩
      · rw [e']; exact h.apart i j hl hl' hl hl' hne g hg
      · rw [e', h3]; simp [Value.ownBlock]
      · rw [e']; exact h.apart i (j - 1) hl hl' hl hl' (by omega) g hg
    · rw [e, h3] at hg; simp [Value.ownBlock] at hg
    · rw [e] at hg
      rcases ins_get m y k hk j hj with ⟨hl', hjk, e'⟩ | ⟨hjk, e'⟩ | ⟨hl', hjk, e'⟩
      · rw [e']; exact h.apart (i - 1) j hl hl' hl hl' (by omega) g hg
      · rw [e', h3]; simp [Value.ownBlock]
      · rw [e']; exact h.apart (i - 1) (j - 1) hl hl' hl hl' (by omega) g hg

theorem ins_set {α : Type} (m : List α) (y z : α) (k : Nat) (hk : k ≤ m.length) : (m.take k ++ y :: m.drop k).set k z = m.take k ++ z :: m.drop k := by
  have hl : (m.take k).length = k := by rw [List.length_take]; omega
  rw [List.set_append_right _ _ (by omega), hl, Nat.sub_self, List.set_cons_zero]

set_option maxRecDepth 100000 in
set_option maxHeartbeats 4000000 in
theorem apply_no {w : World} {v : Value} {m0 : List Fv} {L : List Fk} (h : Rd w 5 v m0.length (fkCells m0)) (hf : ∀ x ∈ m0, FvRd w x) (hmp0 : m0.map (·.2.2) = L) (hs : SmallL L) (hup : FkUp L) (hpu : ∀ y ∈ L, PtUp y.points) (hpl : ∀ y ∈ L, y.points.length ≤ 900)
    (key val : List UInt8) (gone : Bool) (off : Int) (hk : key.length ≤ 100000) (hv : val.length ≤ 100000) (hE : Env w) {q : Wd} {ok : Bool} (hq : readP key val gone = (q, ok)) {k : Nat} (hk0 : fkAt L q.group = k) (hb : hasFk L q.group = false) :
    Calls Tryz.prog 10 #[v, .agg #[.int .i64 off, .string (bs key), .string (bs val), .bool gone]] w (ApplyTo w (applyW L q)) := by
  have hb1 := below_alloc w (.cells #[.int .i64 off, .string (bs key), .string (bs val), .bool gone] 28)
  obtain ⟨wa, hwa⟩ : ∃ wa, wa = w.alloc (.cells #[.int .i64 off, .string (bs key), .string (bs val), .bool gone] 28) := ⟨_, rfl⟩
  have hX : wa.heap[w.heap.size]? = some (.cells #[.int .i64 off, .string (bs key), .string (bs val), .bool gone] 28 (0, 0)) := by rw [hwa]; exact heap_alloc_new _ _
  have hsa : wa.heap.size = w.heap.size + 1 := by rw [hwa]; simp
  rw [← hwa] at hb1
  have hxk : ∀ W, Below wa.heap.size wa W → (W.cell? ⟨w.heap.size, 0, none⟩ = some (.int .i64 off) ∧ W.cell? ⟨w.heap.size, 1, none⟩ = some (.string (bs key)) ∧ W.cell? ⟨w.heap.size, 2, none⟩ = some (.string (bs val)) ∧ W.cell? ⟨w.heap.size, 3, none⟩ = some (.bool gone)) ∧ Below w.heap.size w W ∧
      Calls Tryz.prog 23 #[.agg #[.int .i64 off, .string (bs key), .string (bs val), .bool gone]] W fun e w' => ∃ (ma : Option Addr) (mc : Nat), e = .returned (.tuple #[.agg #[.int .u8 (q.kind.toNat : Int), .string (bs q.group), .int .i64 q.gen, .int .i64 q.parts, .slice ma q.members.length mc, .int .i64 q.part, .int .i64 q.off, .int .i64 q.code], .bool ok]) ∧
        w'.ownsRow W.heap.size 9 1 (.slice ma q.members.length mc) q.members.length (strCells q.members) ∧ Below W.heap.size W w' := by
    intro W hbW
    have h2 := (hbW.block w.heap.size (by omega)).trans hX
    have h3 := hb1.trans (hbW.mono (by omega))
    exact ⟨⟨cells_of h2 0 _ rfl, cells_of h2 1 _ rfl, cells_of h2 2 _ rfl, cells_of h2 3 _ rfl⟩, h3, (by have hr := read_all key val gone off hk hv (hE.below h3); rw [hq] at hr; exact hr)⟩
  have hcp : Calls Tryz.prog 22 #[v] wa fun e w' => ∃ (oa : Option Addr) (oc : Nat) (m : List Fv), e = .returned (.slice oa m.length oc) ∧ m.map (·.2.2) = L ∧ OwnF w' (w.heap.size + 1) (.slice oa m.length oc) m ∧ Below wa.heap.size wa w' := by
    refine (copied_any (h.below hb1) (fun x hx => (hf x hx).below hb1) (by rw [hmp0]; exact hs)).mono ?_
    rintro e w' ⟨v', m, rfl, hm, ho, hbx⟩
    obtain ⟨oa, oc, rfl, -⟩ := (Sl.of_owns ho.own).shape
    rw [hsa] at ho
    exact ⟨oa, oc, m, rfl, by rw [hm, hmp0], ho, hbx⟩
  have hL1 := hs.len
  have hthe : theF L q.group = ⟨q.group, 0, 0, [], []⟩ := by simp [theF, hb]
  have hkl : k ≤ L.length := by rw [← hk0]; exact posK_le Fk.name L q.group
  have HSA := Lib.hid hsa
  have HXK := Lib.hid hxk
  have HCP := Lib.hid hcp
  have HG := Lib.hid (And.intro hup (And.intro hpu (And.intro hpl (And.intro hk0 (And.intro hb hthe)))))
  clear hxk hcp h hf hX hb1 hsa hpu hpl hk0 hb hthe hq hE hk hv hmp0 hs
  go_enter Tryz.func10, Tryz.ntmps10
  go_upto_block 0 with (first
    | (rw [← hwa]; clear hwa; go_at_call 22; refine HCP.out.mono ?_; rintro _ w2 ⟨oa, oc, m, rfl, hm2, ho2, hb2⟩; obtain ⟨⟨x0, x1, x2, x3⟩, hbw2, hrd2⟩ := HXK.out w2 hb2; have hz2 : w.heap.size + 1 ≤ w2.heap.size := (by have h1 := hb2.size; have h2 := HSA.out; omega); have H2 := Lib.hid (And.intro hm2 (And.intro ho2 (And.intro hbw2 (And.intro hrd2 hz2)))); clear hm2 ho2 hb2 hbw2 hrd2 hz2)
    | (go_at_call 23; refine H2.out.2.2.2.1.mono ?_; rintro _ w3 ⟨ma, mc, rfl, hmem3, hb3⟩; have hbb : Below w2.heap.size w2 (w3.alloc (.cells #[.int .u8 (q.kind.toNat : Int), .string (bs q.group), .int .i64 q.gen, .int .i64 q.parts, .slice ma q.members.length mc, .int .i64 q.part, .int .i64 q.off, .int .i64 q.code] 60)) := hb3.alloc hb3.size _; have hA3 : ApAt w (w3.alloc (.cells #[.int .u8 (q.kind.toNat : Int), .string (bs q.group), .int .i64 q.gen, .int .i64 q.parts, .slice ma q.members.length mc, .int .i64 q.part, .int .i64 q.off, .int .i64 q.code] 60)) oa oc m q ma mc w3.heap.size 0 (.bool true) := ⟨H2.out.2.1.below hbb, owns_mono (hmem3.alloc _) H2.out.2.2.2.2, heap_alloc_new _ _, H2.out.2.2.1.trans (hbb.mono H2.out.2.2.1.size), Nat.le_trans H2.out.2.2.2.2 hbb.size⟩; have g1 := cells_of hA3.box 1 _ rfl; have H3 := Lib.hid hA3; clear hA3 hmem3 hb3 hbb)
    | (go_at_call 24; refine (the_no (OwnF.fv H3.out.own).1 (OwnF.fv H3.out.own).2 H2.out.1 HG.out.1 hL1 HG.out.2.2.2.2.1).mono ?_; rintro _ w4 ⟨hb4, rfl⟩; have hA4 := H3.out.below (hb4.alloc hb4.size (.cells #[.string (bs q.group), .int .i64 0, .int .i64 0, .slice none 0 0, .slice none 0 0] 44)); have hx4 := heap_alloc_new w4 (.cells #[.string (bs q.group), .int .i64 0, .int .i64 0, .slice none 0 0, .slice none 0 0] 44); have g1 := cells_of hA4.box 1 _ rfl; have hlt4 : w4.heap.size < (w4.alloc (.cells #[.string (bs q.group), .int .i64 0, .int .i64 0, .slice none 0 0, .slice none 0 0] 44)).heap.size := (by simp); have H4 := Lib.hid (And.intro hA4 (And.intro hx4 hlt4)); clear hA4 hb4 hx4 hlt4)
    | (go_at_call 25; refine (find_any ⟨m, H2.out.1, (OwnF.fv H4.out.1.own).1, (OwnF.fv H4.out.1.own).2⟩ HG.out.1 hL1 q.group).mono ?_; rintro _ w5 ⟨rfl, hb5⟩; rw [HG.out.2.2.2.1, HG.out.2.2.2.2.1]; have hA5 := H4.out.1.below hb5; have hx5 := (hb5.block w4.heap.size H4.out.2.2).trans H4.out.2.1; have H5 := Lib.hid (And.intro hA5 hx5); clear hA5 hx5 hb5))
  have b0 := cells_of H5.out.1.box 0 _ rfl
  have b2 := cells_of H5.out.1.box 2 _ rfl
  have b3 := cells_of H5.out.1.box 3 _ rfl
  have b4 := cells_of H5.out.1.box 4 _ rfl
  have y0 := cells_of H5.out.2 0 _ rfl
  have y1 := cells_of H5.out.2 1 _ rfl
  have y2 := cells_of H5.out.2 2 _ rfl
  have y3 := cells_of H5.out.2 3 _ rfl
  have y4 := cells_of H5.out.2 4 _ rfl
  have hml : m.length = L.length := by rw [← H2.out.1]; simp
  have hkm : k ≤ m.length := by omega
  have HML := Lib.hid hml
  have i1 : (k : Int) ≤ (m.length : Int) := by omega
  have i2 : (0 : Int) ≤ (k : Int) := by omega
  have hP : points L q = false := by simp [points, HG.out.2.2.2.2.1]
  clear x0 x1 x2 x3 H3 H4 HXK HCP hml
  by_cases c1 : q.kind = 116
  · have c1' : (q.kind.toNat : Int) = 116 := by rw [c1]; rfl
    have C1 := Lib.hid c1
    clear c1
    by_cases c2 : IntKind.i64.wrap (q.gen - 1) = 0
    · have c2' : wrap64 (q.gen - 1) = 0 := by rw [← IntWalk.i64_left]; exact c2
      by_cases c5 : L.length < 4
      · have hT : turns L q = true := by simp [turns, C1.out, HG.out.2.2.2.2.2, c2, c5]
        have hR : applyW L q = L.take k ++ ⟨q.group, q.gen, q.parts, q.members, []⟩ :: L.drop k := by simp only [applyW, hT, if_true, HG.out.2.2.2.2.1, HG.out.2.2.2.1, Bool.false_eq_true, if_false]
        have c5' : (m.length : Int) < 4 := by have := HML.out; omega
        have HR := Lib.hid hR
        clear hT hR hP
        obtain ⟨Y, hY⟩ : ∃ Y : Fv, Y = (.slice none 0 0, .slice none 0 0, ⟨q.group, 0, 0, [], []⟩) := ⟨_, rfl⟩
        have hlY : (m.take k ++ Y :: m.drop k).length = m.length + 1 := by simp; omega
        have hN5 := H5.out.1.sz
        have hins := InsertFk_any (w := w5.alloc (.cells #[.string (bs q.group), .int .i64 0, .int .i64 0, .slice none 0 0, .slice none 0 0] 44)) (N := w.heap.size + 1) (vb := w5.heap.size) (la := oa) (n := m.length) (lc := oc) (i := k) (L := m) (y := (.slice none 0 0, .slice none 0 0, ⟨q.group, 0, 0, [], []⟩))
          (H5.out.1.own.own.alloc _) rfl (by rw [World.size_alloc]; omega) (by have := HML.out; omega) (oneFks (OwnF.fv H5.out.1.own).2) (by simp [Value.oneCell']) (heap_alloc_new w5 _) (fun g hg e => by have := (owns_lt H5.out.1.own.own g hg).2; omega) hkm
        have HINS := Lib.hid hins
        clear hins
        go_upto_region 8 with (first | (go_at_call 26; refine HINS.out.mono ?_; rintro _ w6 ⟨ia, ic, rfl, ho6, hu6, -⟩; have H6 := Lib.hid (And.intro ho6 hu6); clear ho6 hu6))
        obtain ⟨ho6, hu6⟩ := H6.out
        have hu' : Upd (fun b => some b = (Value.slice oa m.length oc).ownBlock) w5 w6 := (upd_alloc _ w5 _).trans hu6
        have hO6 := OwnG.insert H5.out.1.own hu' k hkm ((.slice none 0 0, .slice none 0 0, ⟨q.group, 0, 0, [], []⟩) : Fv) rfl rfl rfl rfl ho6
        have hB6 := (hu'.block _ (Array.getElem?_eq_some_iff.1 H5.out.1.box).1 (fun e => owns_box_ne H5.out.1.own.own H5.out.1.box (by decide) _ e.symm rfl)).trans H5.out.1.box
        have hM6 := owns_upd H5.out.1.mem hu' (fun g' hg e => owns_types H5.out.1.mem H5.out.1.own.own (by decide) g' hg e)
        have hb6 : Below w.heap.size w w6 := H5.out.1.bel.trans (hu'.toBelow H5.out.1.bel.size (fun b e => by have := (owns_lt H5.out.1.own.own b e.symm).1; omega))
        obtain ⟨g, rfl⟩ : ∃ g, ia = some ⟨g, 0, none⟩ := by
          rcases hO6.own.2 with ⟨h1, h2⟩ | ⟨g, cap, cur, h1, -⟩
          · simp at h2
          · simp only [Value.slice.injEq] at h1; exact ⟨g, h1.1⟩
        have hlen6 : m.length + 1 = (m.take k ++ ((.slice none 0 0, .slice none 0 0, ⟨q.group, 0, 0, [], []⟩) : Fv) :: m.drop k).length := by simp; omega
        have hk6 : k < (m.take k ++ ((.slice none 0 0, .slice none 0 0, ⟨q.group, 0, 0, [], []⟩) : Fv) :: m.drop k).length := by rw [← hlen6]; omega
        have hget6 : (m.take k ++ ((.slice none 0 0, .slice none 0 0, ⟨q.group, 0, 0, [], []⟩) : Fv) :: m.drop k)[k] = (.slice none 0 0, .slice none 0 0, ⟨q.group, 0, 0, [], []⟩) := by
          rcases ins_get m ((.slice none 0 0, .slice none 0 0, ⟨q.group, 0, 0, [], []⟩) : Fv) k hkm k hk6 with ⟨-, h, -⟩ | ⟨-, h⟩ | ⟨-, h, -⟩
          · omega
          · exact h
          · omega
        obtain ⟨z1, f1⟩ := hO6.word hlen6 k hk6 1 (.int .i64 0) (by rw [hget6]; rfl)
        obtain ⟨z2, f2⟩ := hO6.word hlen6 k hk6 2 (.int .i64 0) (by rw [hget6]; rfl)
        obtain ⟨z3, f3⟩ := hO6.word hlen6 k hk6 3 (.slice none 0 0) (by rw [hget6]; rfl)
        have b2 := cells_of hB6 2 _ rfl
        have b3 := cells_of hB6 3 _ rfl
        have b4 := cells_of hB6 4 _ rfl
        have i3 : (k : Int) < (m.length : Int) + 1 := by omega
        have i4 : k < m.length + 1 := by omega
        have H7 := Lib.hid (And.intro hO6 (And.intro hM6 (And.intro hb6 (And.intro hlen6 hget6))))
        clear ho6 hu6 hu' hO6 hB6 hM6 hb6 hlen6 hget6 hlY b0 y0 y1 y2 y3 y4
        go_region
        all_goals
          obtain ⟨hO6, hM6, hb6, hlen6, hget6⟩ := H7.out
          have ht := OwnG.turn hO6 hlen6 k hk6 q.gen q.parts (.slice ma q.members.length mc) q.members hM6
          rw [hget6] at ht
          rw [ins_set m _ _ k hkm] at ht
          have hgN := (owns_lt hO6.own g rfl)
          have hbl := hb6.trans ((((upd_set1 w6 g (k * 5 + 1) (.int .i64 q.gen)).trans (upd_set1 _ g (k * 5 + 2) (.int .i64 q.parts))).trans (upd_set1 _ g (k * 5 + 3) (.slice ma q.members.length mc))).toBelow hb6.size (fun b e => by omega))
          have hmm : (m.take k ++ ((.slice ma q.members.length mc, .slice none 0 0, ⟨q.group, q.gen, q.parts, q.members, []⟩) : Fv) :: m.drop k).map (·.2.2) = L.take k ++ ⟨q.group, q.gen, q.parts, q.members, []⟩ :: L.drop k := by
            rw [List.map_append, List.map_cons, List.map_take, List.map_drop, H2.out.1]
          have hrd : OwnFk _ w.heap.size _ _ := ⟨_, hmm, OwnG.mono ht (Nat.le_succ _)⟩
          have HZ := Lib.hid (And.intro (hrd.below (Below.refl _ _).drew) (hbl.trans ((Below.refl _ _).drew.mono hbl.size)))
          clear ht hrd hbl hmm hO6 hM6 hb6 hlen6 hget6
          go_wp2
          go_ret
          exact ⟨_, rfl, by rw [HR.out]; exact HZ.out.1, HZ.out.2⟩
      · have hT : turns L q = false := by simp [turns, HG.out.2.2.2.2.2, HG.out.2.2.2.2.1, c5]
        have hR : applyW L q = L := by simp [applyW, hT, hP]
        have c5' : ¬ (m.length : Int) < 4 := by have := HML.out; omega
        have HR := Lib.hid hR
        clear hR hT hP
        go_wp2
        go_ret
        exact ⟨_, rfl, by rw [HR.out]; exact ⟨m, H2.out.1, H5.out.1.own.mono (Nat.le_succ _)⟩, H5.out.1.bel⟩
    · have hT : turns L q = false := by simp [turns, HG.out.2.2.2.2.2, c2]
      have hR : applyW L q = L := by simp [applyW, hT, hP]
      have c2' : ¬ wrap64 (q.gen - 1) = 0 := by rw [← IntWalk.i64_left]; exact c2
      have c2b : (wrap64 (q.gen - 1) == 0) = false := beq_eq_false_iff_ne.2 c2'
      have HR := Lib.hid hR
      clear hR hT hP
      go_wp2
      go_ret
      exact ⟨_, rfl, by rw [HR.out]; exact ⟨m, H2.out.1, H5.out.1.own.mono (Nat.le_succ _)⟩, H5.out.1.bel⟩
  · have c1' : ¬ (q.kind.toNat : Int) = 116 := byte_ne_nat (d := 116) c1
    have c1b : ((q.kind.toNat : Int) == 116) = false := beq_eq_false_iff_ne.2 c1'
    have hT : turns L q = false := by simp [turns, c1]
    have hR : applyW L q = L := by simp [applyW, hT, hP]
    clear c1
    by_cases c3 : q.kind = 99
    · have c3' : (q.kind.toNat : Int) = 99 := by rw [c3]; rfl
      clear c3
      have HR := Lib.hid hR
      clear hR hT hP
      go_wp2
      go_ret
      exact ⟨_, rfl, by rw [HR.out]; exact ⟨m, H2.out.1, H5.out.1.own.mono (Nat.le_succ _)⟩, H5.out.1.bel⟩
    · have c3' : ¬ (q.kind.toNat : Int) = 99 := byte_ne_nat (d := 99) c3
      have c3b : ((q.kind.toNat : Int) == 99) = false := beq_eq_false_iff_ne.2 c3'
      have HR := Lib.hid hR
      clear hR hT hP
      go_wp2
      go_ret
      exact ⟨_, rfl, by rw [HR.out]; exact ⟨m, H2.out.1, H5.out.1.own.mono (Nat.le_succ _)⟩, H5.out.1.bel⟩

/-- flock.Apply: one record more. -/
theorem apply_any {w : World} {v : Value} {L : List Fk} (h : FksRd w v L) (hs : SmallL L) (hup : FkUp L) (hpu : ∀ y ∈ L, PtUp y.points) (hpl : ∀ y ∈ L, y.points.length ≤ 900)
    (key val : List UInt8) (gone : Bool) (off : Int) (hk : key.length ≤ 100000) (hv : val.length ≤ 100000) (hE : Env w) :
    Calls Tryz.prog 10 #[v, .agg #[.int .i64 off, .string (bs key), .string (bs val), .bool gone]] w (ApplyTo w (applyW L (readP key val gone).1)) := by
  obtain ⟨m0, hm, hrd, hf⟩ := h
  cases hb : hasFk L (readP key val gone).1.group with
  | false => exact apply_no hrd hf hm hs hup hpu hpl key val gone off hk hv hE (q := (readP key val gone).1) (ok := (readP key val gone).2) rfl rfl hb
  | true =>
    obtain ⟨hkl, -⟩ := hasFk_at hup hb
    exact apply_yes hrd hf hm hs hup hpu hpl key val gone off hk hv hE (q := (readP key val gone).1) (ok := (readP key val gone).2) rfl rfl hb (List.getElem?_eq_getElem hkl)
end Go.Proofs.YtdchjepahgecgaaGreatDoor
