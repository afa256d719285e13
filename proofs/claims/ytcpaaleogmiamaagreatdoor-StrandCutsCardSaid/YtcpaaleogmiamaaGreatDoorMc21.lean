/- slices.Clone at records, batches, segments; strand.copied. -/
import Derived.Test.YtcpaaleogmiamaaGreatDoorMc20
namespace Go.Proofs.YtcpaaleogmiamaaGreatDoor
open Go.RowKit

theorem und_Recs4 : Tryz.prog.underlying 38 = some (.slice 84) := by kernel_rfl
theorem info_Rec4 : (Tryz.prog.info? 84).map (fun i => (i.zero, i.size, i.bytes)) = some (some (.agg #[.int .i64 0, .string ⟨#[]⟩, .string ⟨#[]⟩, .bool false]), 4, 48) := by kernel_rfl
theorem und_Batches6 : Tryz.prog.underlying 89 = some (.slice 40) := by kernel_rfl
theorem info_Batch6 : (Tryz.prog.info? 40).map (fun i => (i.zero, i.size, i.bytes)) = some (some (.agg #[.int .i64 0, .int .i64 0, .int .i64 0, .int .i64 0, .int .i64 0, .slice none 0 0]), 6, 64) := by kernel_rfl
theorem und_segs : Tryz.prog.underlying 159 = some (.slice 158) := by kernel_rfl
theorem info_seg : (Tryz.prog.info? 158).map (fun i => (i.zero, i.size, i.bytes)) = some (some (.agg #[.int .i64 0, .slice none 0 0, .int .i64 0]), 3, 40) := by kernel_rfl

theorem rd_one {w : World} {sz : Nat} {v : Value} {n : Nat} {xs : List Value} (h : Rd w sz v n xs) : v.oneCell' = true := by
  obtain ⟨a, c, rfl, -⟩ := Rd.shape h
  rfl
theorem recCells_len (l : List Rec) : (recCells l).length = l.length * 4 := by
  induction l with
  | nil => rfl
  | cons x l ih => simp only [recCells, List.flatMap_cons, List.length_append, List.length_cons] at ih ⊢; rw [ih]; simp [Rec.cells]; omega
theorem one_recs (l : List Rec) : ∀ u ∈ recCells l, u.oneCell' = true := by
  intro u hu
  obtain ⟨x, -, hx⟩ := List.mem_flatMap.1 hu
  simp only [Rec.cells, List.mem_cons, List.not_mem_nil, or_false] at hx
  rcases hx with rfl | rfl | rfl | rfl <;> rfl
theorem one_bs {m : List (Value × Batch)} (h : ∀ x ∈ m, x.1.oneCell' = true) : ∀ u ∈ bCells m, u.oneCell' = true := by
  intro u hu
  obtain ⟨x, hm, hx⟩ := List.mem_flatMap.1 hu
  simp only [List.mem_cons, List.not_mem_nil, or_false] at hx
  rcases hx with rfl | rfl | rfl | rfl | rfl | rfl
  all_goals first | rfl | exact h x hm
theorem one_sgs {m : List (Value × Sg)} (h : ∀ x ∈ m, x.1.oneCell' = true) : ∀ u ∈ sgCells m, u.oneCell' = true := by
  intro u hu
  obtain ⟨x, hm, hx⟩ := List.mem_flatMap.1 hu
  simp only [List.mem_cons, List.not_mem_nil, or_false] at hx
  rcases hx with rfl | rfl | rfl
  all_goals first | rfl | exact h x hm

set_option maxRecDepth 100000 in
set_option maxHeartbeats 400000 in
theorem CloneRecs_any {w : World} {v : Value} {l : List (Rec)} (h : RcsRd w v l) (hl : l.length ≤ 1000000000) :
    Calls Tryz.prog 88 #[v] w (ClonedTo w 84 4 l.length (recCells l)) := by
  rcases h.2 with ⟨rfl, h0⟩ | ⟨a, cap, rfl, h2, h3, h4⟩
  · have hl0 : l = [] := List.eq_nil_of_length_eq_zero h0
    subst hl0
    have hnil : ∀ w, (binOp .eql 38 (.slice none 0 0) (.slice none 0 0)).run Tryz.prog w = .ok (.bool true) w := fun w => Lib.run_eql_slice_nil w _ _ none 0 0 0 0 und_Recs4
    go_enter Tryz.func88, Tryz.ntmps88
    go_wp2
    go_ret
    exact ⟨_, rfl, World.ownsRow_nil _ _ _ _, Below.refl _ _⟩
  · obtain ⟨i0, hi, hz0, hz1, hz2⟩ := info_parts info_Rec4
    have hcell : ∀ j u, (recCells l)[j]? = some u → (w.alloc (.cells #[] 84)).cell? (a.add j) = some u := by
      intro j u hu
      have hc := h4 j u hu
      rw [World.cell?_alloc_lt (h := World.block_lt_of_cell? w _ hc)]
      exact hc
    have hown0 := World.ownsRow_made (e := 84) (size := 4) (base := w.heap.size) w #[] 0 (Nat.le_refl _) (Nat.zero_le _) rfl
    have hone := one_recs l
    have HO := Lib.hid hown0
    have H := Lib.hid hcell
    have H1 := Lib.hid hone
    clear hcell h4 h h3 hown0 hone
    have hnil : ∀ w, (binOp .eql 38 (.slice (some a) l.length cap) (.slice none 0 0)).run Tryz.prog w = .ok (.bool false) w := fun w => Lib.run_eql_slice_nil w _ _ _ _ _ 0 0 und_Recs4
    go_enter Tryz.func88, Tryz.ntmps88
    go_wp2_with (at_builtin; refine wpList_append_own _ rfl _ _ 38 rfl w.heap.size 84 i0 _ 4 48 und_Recs4 hi hz0 hz1 hz2 rfl (by decide) (.slice (some ⟨w.heap.size, 0, none⟩) 0 0) 0 [] rfl HO.out a l.length cap (recCells l) rfl (recCells_len l) H.out H1.out ?_ ?_ ?_ ?_; (unfold maxLen; omega); omega; simp; intro v' w1 hown hgrow hnil')
    go_ret
    refine ⟨v', rfl, by simpa using hown, ?_⟩
    exact ((Below.refl _ w).alloc (Nat.le_refl _) _).grown hgrow (by simp) (fun k e => by simp [Value.ownBlock] at e; omega)

set_option maxRecDepth 100000 in
set_option maxHeartbeats 400000 in
theorem CloneBs_any {w : World} {v : Value} {l : List (Value × Batch)} (h : Rd w 6 v l.length (bCells l)) (hone : ∀ u ∈ bCells l, u.oneCell' = true) (hl : l.length ≤ 1000000000) :
    Calls Tryz.prog 126 #[v] w (ClonedTo w 40 6 l.length (bCells l)) := by
  rcases h.2 with ⟨rfl, h0⟩ | ⟨a, cap, rfl, h2, h3, h4⟩
  · have hl0 : l = [] := List.eq_nil_of_length_eq_zero h0
    subst hl0
    have hnil : ∀ w, (binOp .eql 89 (.slice none 0 0) (.slice none 0 0)).run Tryz.prog w = .ok (.bool true) w := fun w => Lib.run_eql_slice_nil w _ _ none 0 0 0 0 und_Batches6
    go_enter Tryz.func126, Tryz.ntmps126
    go_wp2
    go_ret
    exact ⟨_, rfl, World.ownsRow_nil _ _ _ _, Below.refl _ _⟩
  · obtain ⟨i0, hi, hz0, hz1, hz2⟩ := info_parts info_Batch6
    have hcell : ∀ j u, (bCells l)[j]? = some u → (w.alloc (.cells #[] 40)).cell? (a.add j) = some u := by
      intro j u hu
      have hc := h4 j u hu
      rw [World.cell?_alloc_lt (h := World.block_lt_of_cell? w _ hc)]
      exact hc
    have hown0 := World.ownsRow_made (e := 40) (size := 6) (base := w.heap.size) w #[] 0 (Nat.le_refl _) (Nat.zero_le _) rfl
    have HO := Lib.hid hown0
    have H := Lib.hid hcell
    have H1 := Lib.hid hone
    clear hcell h4 h h3 hown0 hone
    have hnil : ∀ w, (binOp .eql 89 (.slice (some a) l.length cap) (.slice none 0 0)).run Tryz.prog w = .ok (.bool false) w := fun w => Lib.run_eql_slice_nil w _ _ _ _ _ 0 0 und_Batches6
    go_enter Tryz.func126, Tryz.ntmps126
    go_wp2_with (at_builtin; refine wpList_append_own _ rfl _ _ 89 rfl w.heap.size 40 i0 _ 6 64 und_Batches6 hi hz0 hz1 hz2 rfl (by decide) (.slice (some ⟨w.heap.size, 0, none⟩) 0 0) 0 [] rfl HO.out a l.length cap (bCells l) rfl (bCells_length l) H.out H1.out ?_ ?_ ?_ ?_; (unfold maxLen; omega); omega; simp; intro v' w1 hown hgrow hnil')
    go_ret
    refine ⟨v', rfl, by simpa using hown, ?_⟩
    exact ((Below.refl _ w).alloc (Nat.le_refl _) _).grown hgrow (by simp) (fun k e => by simp [Value.ownBlock] at e; omega)

set_option maxRecDepth 100000 in
set_option maxHeartbeats 400000 in
theorem Clonesegs_any {w : World} {v : Value} {l : List (Value × Sg)} (h : Rd w 3 v l.length (sgCells l)) (hone : ∀ u ∈ sgCells l, u.oneCell' = true) (hl : l.length ≤ 1000000000) :
    Calls Tryz.prog 150 #[v] w (ClonedTo w 158 3 l.length (sgCells l)) := by
  rcases h.2 with ⟨rfl, h0⟩ | ⟨a, cap, rfl, h2, h3, h4⟩
  · have hl0 : l = [] := List.eq_nil_of_length_eq_zero h0
    subst hl0
    have hnil : ∀ w, (binOp .eql 159 (.slice none 0 0) (.slice none 0 0)).run Tryz.prog w = .ok (.bool true) w := fun w => Lib.run_eql_slice_nil w _ _ none 0 0 0 0 und_segs
    go_enter Tryz.func150, Tryz.ntmps150
    go_wp2
    go_ret
    exact ⟨_, rfl, World.ownsRow_nil _ _ _ _, Below.refl _ _⟩
  · obtain ⟨i0, hi, hz0, hz1, hz2⟩ := info_parts info_seg
    have hcell : ∀ j u, (sgCells l)[j]? = some u → (w.alloc (.cells #[] 158)).cell? (a.add j) = some u := by
      intro j u hu
      have hc := h4 j u hu
      rw [World.cell?_alloc_lt (h := World.block_lt_of_cell? w _ hc)]
      exact hc
    have hown0 := World.ownsRow_made (e := 158) (size := 3) (base := w.heap.size) w #[] 0 (Nat.le_refl _) (Nat.zero_le _) rfl
    have HO := Lib.hid hown0
    have H := Lib.hid hcell
    have H1 := Lib.hid hone
    clear hcell h4 h h3 hown0 hone
    have hnil : ∀ w, (binOp .eql 159 (.slice (some a) l.length cap) (.slice none 0 0)).run Tryz.prog w = .ok (.bool false) w := fun w => Lib.run_eql_slice_nil w _ _ _ _ _ 0 0 und_segs
    go_enter Tryz.func150, Tryz.ntmps150
    go_wp2_with (at_builtin; refine wpList_append_own _ rfl _ _ 159 rfl w.heap.size 158 i0 _ 3 40 und_segs hi hz0 hz1 hz2 rfl (by decide) (.slice (some ⟨w.heap.size, 0, none⟩) 0 0) 0 [] rfl HO.out a l.length cap (sgCells l) rfl (sgCells_length l) H.out H1.out ?_ ?_ ?_ ?_; (unfold maxLen; omega); omega; simp; intro v' w1 hown hgrow hnil')
    go_ret
    refine ⟨v', rfl, by simpa using hown, ?_⟩
    exact ((Below.refl _ w).alloc (Nat.le_refl _) _).grown hgrow (by simp) (fun k e => by simp [Value.ownBlock] at e; omega)

/-- An owned row is read wherever its block stands. -/
theorem owns_inS {w : World} {N e size : Nat} {v : Value} {n : Nat} {xs : List Value} (h : w.ownsRow N e size v n xs) {S : Nat → Prop} (hS : ∀ g, v.ownBlock = some g → S g) : InS w S (fun W => Rd W size v n xs) := by
  refine (Sl.of_owns h).rd.inS (fun a k c e => ?_)
  rcases h.2 with ⟨h1, -⟩ | ⟨g, cap, cur, h1, -⟩
  · rw [h1] at e; cases e
  · rw [h1] at e
    simp only [Value.slice.injEq, Option.some.injEq] at e
    exact hS _ (by rw [h1, ← e.1]; rfl)

def bEl (x : Value × Batch) : List Value := [.int .i64 x.2.base, .int .i64 x.2.count, .int .i64 x.2.prod, .int .i64 x.2.seq, .int .i64 x.2.time, x.1]
theorem bEl_len (x : Value × Batch) : (bEl x).length = 6 := rfl
theorem bCells_el (m : List (Value × Batch)) : bCells m = m.flatMap bEl := rfl
def sgEl (x : Value × Sg) : List Value := [.int .i64 x.2.base, x.1, .int .i64 ((sgB x.2.list).length : Int)]
theorem sgEl_len (x : Value × Sg) : (sgEl x).length = 3 := rfl
theorem sgCells_el (m : List (Value × Sg)) : sgCells m = m.flatMap sgEl := rfl

/-- Batches in new memory. -/
def CopTo (w : World) (l : List Batch) (e : Ending) (w' : World) : Prop := ∃ v', e = .returned v' ∧ BsIn w' (fun k => w.heap.size ≤ k) v' l ∧ Below w.heap.size w w'

set_option maxRecDepth 100000 in
set_option maxHeartbeats 2000000 in
theorem Stcopied_any {w : World} {v : Value} {l : List Batch} (h : BsRd w v l) (hl : l.length ≤ 1000000000) (hr : ∀ b ∈ l, b.recs.length ≤ 1000000) : Calls Tryz.prog 124 #[v] w (CopTo w l) := by
  obtain ⟨m0, hm0, hrd, hrec⟩ := h
  have hlen : m0.length = l.length := by rw [← hm0, List.length_map]
  have hone : ∀ u ∈ bCells m0, u.oneCell' = true := one_bs (fun x hx => rd_one (hrec x hx))
  have hcl := CloneBs_any hrd hone (by omega)
  have HCL := Lib.hid hcl
  have HM := Lib.hid (And.intro hm0 hrec)
  have HR := Lib.hid hr
  clear hrd hone hcl hm0 hrec hr
  go_enter Tryz.func124, Tryz.ntmps124
  go_wp2_with fail
  refine HCL.out.mono ?_
  rintro _ w3 ⟨v3, rfl, hown3, hb3⟩
  obtain ⟨ga, gc, rfl, -⟩ := (Sl.of_owns hown3).shape
  rw [hlen] at hown3 ⊢
  have H3 := Lib.hid (And.intro hown3 hb3)
  clear hown3 hb3
  go_wp2
  go_loopg [4, 9] l.length (fun gk _ i wx => ∃ (k : Nat) (mk : List (Value × Batch)), k ≤ l.length ∧ gk = l.length - k ∧ i = .int .i64 k ∧ mk.map (·.2) = l ∧ wx.ownsRow w.heap.size 40 6 (.slice ga l.length gc) l.length (bCells mk) ∧
    (∀ j (hj : j < mk.length), j < k → InS wx (fun b => w.heap.size ≤ b ∧ (Value.slice ga l.length gc).ownBlock ≠ some b) (fun W => RcsRd W mk[j].1 mk[j].2.recs)) ∧ (∀ j (hj : j < mk.length), k ≤ j → RcsRd w mk[j].1 mk[j].2.recs) ∧ Below w.heap.size w wx)
  case atStart =>
    refine ⟨0, m0, Nat.zero_le _, rfl, rfl, HM.out.1, H3.out.1, fun j hj h0 => absurd h0 (Nat.not_lt_zero _), fun j hj _ => HM.out.2 _ (List.getElem_mem hj), H3.out.2⟩
  case round =>
    obtain ⟨k, mk, hk, rfl, rfl, hmk, hown, hdone, hrest, hbel⟩ := hrel
    have hmkl : mk.length = l.length := by rw [← hmk, List.length_map]
    by_cases hlt : k < l.length
    · have hkm : k < mk.length := by omega
      have hrk := hrest k hkm (Nat.le_refl _)
      rcases hown.2 with ⟨-, h0⟩ | ⟨g, cap, cur, hv, hg, hb, hn, hcap, hcs, htk⟩
      · omega
      simp only [Value.slice.injEq, true_and] at hv
      obtain ⟨rfl, rfl⟩ := hv
      obtain ⟨ra, rc, hra, -⟩ := Rd.shape hrk
      obtain ⟨g0, g1, g2, g3, g4, g5⟩ := bCells_get mk k hkm
      have c5 : wr.cell? ⟨g, k * 6 + 5, none⟩ = some mk[k].1 := by have := hown.cellAt (k * 6 + 5) (by omega); rw [this]; exact g5
      have f5 : wr.frozen? ⟨g, k * 6 + 5, none⟩ = false := frozen_of hb
      rw [hra] at c5 hrk
      have hlr : mk[k].2.recs.length ≤ 1000000 := HR.out _ (by rw [← hmk]; exact List.mem_map_of_mem (List.getElem_mem hkm))
      have hcr := CloneRecs_any (hrk.below hbel) (by omega)
      have i2 : (k : Int) < (l.length : Int) := by omega
      have i3 : (0 : Int) ≤ (k : Int) := by omega
      have hgl := (Array.getElem?_eq_some_iff.1 hb).1
      have hK : ∀ W, Below wr.heap.size wr W → W.cell? ⟨g, k * 6 + 5, none⟩ = some (.slice ra mk[k].2.recs.length rc) ∧ W.frozen? ⟨g, k * 6 + 5, none⟩ = false := fun W hW => ⟨below_some hW c5 hgl, frozen_of ((hW.block g hgl).trans hb)⟩
      have hFIN : ∀ W v5, Below wr.heap.size wr W → W.ownsRow wr.heap.size 84 4 v5 mk[k].2.recs.length (recCells mk[k].2.recs) → ∃ mk' : List (Value × Batch), mk'.map (·.2) = l ∧ (W.setCell ⟨g, k * 6 + 5, none⟩ v5).ownsRow w.heap.size 40 6 (.slice (some ⟨g, 0, none⟩) l.length gc) l.length (bCells mk') ∧
          (∀ j (hj : j < mk'.length), j < k + 1 → InS (W.setCell ⟨g, k * 6 + 5, none⟩ v5) (fun b => w.heap.size ≤ b ∧ (Value.slice (some ⟨g, 0, none⟩) l.length gc).ownBlock ≠ some b) (fun W => RcsRd W mk'[j].1 mk'[j].2.recs)) ∧ (∀ j (hj : j < mk'.length), k + 1 ≤ j → RcsRd w mk'[j].1 mk'[j].2.recs) ∧ Below w.heap.size w (W.setCell ⟨g, k * 6 + 5, none⟩ v5) := by
        intro W v5 hW ho5
        have hset := upd_set1 W g (k * 6 + 5) v5
        have hownW := owns_upd hown (Upd.of_below (F := fun _ => False) hW) (fun _ _ h => h)
        refine ⟨mk.set k (v5, mk[k].2), ?_, ?_, ?_, ?_, ?_⟩
        · rw [← hmk]
          apply List.ext_getElem
          · simp
          · intro j h1 h2
            simp only [List.getElem_map, List.getElem_set]
            split
            · rename_i e; subst e; rfl
            · rfl
        · have h1 := (hownW.stored (k * 6 + 5) v5).1
          rw [bCells_el, fl_set bEl_len mk k hkm 5 (by decide) v5 (v5, mk[k].2) rfl] at h1
          exact h1
        · intro j hj hjk
          have hj' : j < mk.length := by simpa using hj
          simp only [List.getElem_set]
          by_cases e : k = j
          · subst e
            simp only [if_true]
            have h1 : InS W (fun b => w.heap.size ≤ b ∧ (Value.slice (some ⟨g, 0, none⟩) l.length gc).ownBlock ≠ some b) (fun X => RcsRd X v5 mk[k].2.recs) := owns_inS ho5 (fun b hb5 => ⟨by have := (owns_lt ho5 b hb5).1; have := hbel.size; omega, fun e => by
              simp only [Value.ownBlock, Option.some.injEq] at e
              subst e
              have := (owns_lt ho5 _ hb5).1
              omega⟩)
            exact h1.upd hset (fun b hb5 _ e => hb5.2 (by rw [e]; rfl))
          · simp only [if_neg e]
            exact ((hdone j hj' (by omega)).below hW).upd hset (fun b hb5 _ e => hb5.2 (by rw [e]; rfl))
        · intro j hj hjk
          have hj' : j < mk.length := by simpa using hj
          simp only [List.getElem_set]
          rw [if_neg (by omega)]
          exact hrest j hj' (by omega)
        · exact (hbel.trans (hW.mono hbel.size)).trans (hset.toBelow (by have := hW.size; have := hbel.size; omega) (fun b e => by omega))
      have HK := Lib.hid hK
      have HFI := Lib.hid hFIN
      have HCR := Lib.hid hcr
      clear hrk hown hdone hrest hbel hb htk hcs hra g0 g1 g2 g3 g4 g5 hK hFIN hcr hg
      generalize mk[k] = y at *
      go_wp2_with fail
      refine HCR.out.mono ?_
      rintro _ w5 ⟨v5, rfl, ho5, hb5⟩
      obtain ⟨xa, xc, rfl, -⟩ := (Sl.of_owns ho5).shape
      obtain ⟨c6, f6⟩ := HK.out w5 hb5
      have hfin := HFI.out w5 _ hb5 ho5
      have HFN := Lib.hid hfin
      clear ho5 hb5 hfin c5 f5
      go_wp2
      go_roundg (l.length - (k + 1))
      case measure => omega
      case rel =>
        obtain ⟨mk', n1, n2, n3, n4, n5⟩ := HFN.out
        exact ⟨k + 1, mk', by omega, rfl, by go_num, n1, n2, n3, n4, n5⟩
    · have i2 : ¬ (k : Int) < (l.length : Int) := by omega
      have hfin : BsIn wr (fun b => w.heap.size ≤ b) (.slice ga l.length gc) l := by
        have h1 := owns_inS hown (S := fun b => w.heap.size ≤ b) (fun b hb => (owns_lt hown b hb).1)
        refine ⟨mk, hmk, by rw [hmkl]; exact h1, fun x hx => ?_⟩
        obtain ⟨j, hj, rfl⟩ := List.mem_iff_getElem.1 hx
        exact (hdone j hj (by omega)).grow (fun b hb _ => hb.1)
      have HFIN := Lib.hid (And.intro hfin hbel)
      clear hown hdone hrest hbel hfin
      go_wp2
      go_ret
      exact ⟨_, rfl, HFIN.out.1, HFIN.out.2⟩
end Go.Proofs.YtcpaaleogmiamaaGreatDoor
