/- The walk of the reference's Copy of layer 12. -/
import Derived.Test.YtjkobbmdemooaaaGreatDoorPx27
import Derived.Test.YtjkobbmdemooaaaGreatDoorPx10
import Derived.Laws.AppendOwnNone
namespace Go.Proofs.YtjkobbmdemooaaaGreatDoor
open Go.RowKit

/-- What a copy of a plan is: all its words the call's own. -/
def CopyOut (p : Pl) (w : World) (e : Ending) (w' : World) : Prop :=
  ∃ (pa' la' : Option Addr) (pc' lc' : Nat) (m : List (Value × Pt)), e = .returned (planV p pa' pc' la' lc') ∧ m.map (·.2) = p.parts ∧ OwnP w' w.heap.size (.slice pa' p.parts.length pc') m ∧
    w'.ownsRow w.heap.size 81 2 (.slice la' p.lives.length lc') p.lives.length (lifeCells p.lives) ∧ Below w.heap.size w w'

set_option maxRecDepth 100000 in
set_option maxHeartbeats 4000000 in
theorem R12Copy_any {w : World} {p : Pl} {pa la : Option Addr} {pc lc : Nat} (hp : PartsRd w (.slice pa p.parts.length pc) p.parts) (hl : LivesRd w (.slice la p.lives.length lc) p.lives) (hs : SmallP p) (hne : ∀ y ∈ p.parts, 0 < y.chain.length) :
    Calls Tryz.prog 42 #[planV p pa pc la lc] w (CopyOut p w) := by
  obtain ⟨nodes, copies, P, L⟩ := p
  obtain ⟨hs1, hs2, hs3⟩ := hs
  simp only at hp hl hs1 hs2 hs3 hne
  obtain ⟨pa0, pc0, e0, -, -, hP⟩ := hp.cells
  simp only [Value.slice.injEq, true_and] at e0
  obtain ⟨rfl, rfl⟩ := e0
  obtain ⟨i1, ki, kz0, kz1, kz2⟩ := info_parts info_Int
  obtain ⟨i2, mi, mz0, mz1, mz2⟩ := info_parts info_Part
  obtain ⟨i3, ni, nz0, nz1, nz2⟩ := info_parts info_Life
  have hpl : (P.length : Int) ≤ 1000 := by omega
  obtain ⟨wa, hwa⟩ : ∃ W, W = ((w.alloc (.cells #[.int .i64 nodes, .int .i64 copies, .slice pa P.length pc, .slice la L.length lc] 25)).alloc (.cells #[.int .i64 0, .int .i64 0, .slice none 0 0, .slice none 0 0] 25)).alloc (.cells #[.int .i64 nodes, .int .i64 copies, .slice none 0 0, .slice la L.length lc] 25) := ⟨_, rfl⟩
  have hbwa : Below w.heap.size w wa := by rw [hwa]; exact below_alloc3 _ _ _ _
  have hN : wa.heap[w.heap.size]? = some (.cells #[.int .i64 nodes, .int .i64 copies, .slice pa P.length pc, .slice la L.length lc] 25 (0, 0)) := by
    rw [hwa, Below.heap_alloc _ _ _ (by simp; omega), Below.heap_alloc _ _ _ (by simp)]; exact heap_alloc_new _ _
  have hN1 : wa.heap[w.heap.size + 1]? = some (.cells #[.int .i64 0, .int .i64 0, .slice none 0 0, .slice none 0 0] 25 (0, 0)) := by
    rw [hwa, Below.heap_alloc _ _ _ (by simp)]; exact heap_new1 _ _ _
  have hN2 : wa.heap[w.heap.size + 2]? = some (.cells #[.int .i64 nodes, .int .i64 copies, .slice none 0 0, .slice la L.length lc] 25 (0, 0)) := by rw [hwa]; exact heap_new2 _ _ _ _
  have HP := Lib.hid hP
  have HL := Lib.hid hl
  have HS := Lib.hid (And.intro hs3 hne)
  have HA := Lib.hid (And.intro hbwa (And.intro hN (And.intro hN1 hN2)))
  clear hp hl hP hs3 hne hbwa hN hN1 hN2
  go_enter Tryz.func42, Tryz.ntmps42
  go_upto_region 3 with fail
  rw [← hwa]
  clear hwa
  obtain ⟨X2, hX2⟩ : ∃ X, X = w.heap.size + 1 + 1 := ⟨_, rfl⟩
  rw [← hX2]
  have hX2' : w.heap.size + 2 = X2 := by omega
  rw [hX2'] at HA
  have HX2 := Lib.hid hX2
  have hX2a : w.heap.size + 1 < X2 := by omega
  clear hX2 hX2'
  go_wp2
  go_loopg [4] P.length (fun gk i wr => ∃ (k : Nat) (qa : Option Addr) (qc : Nat) (m : List (Value × Pt)), k ≤ P.length ∧ gk = P.length - k ∧ i = .int .i64 k ∧ m.length = k ∧ m.map (·.2) = P.take k ∧ OwnP wr (X2 + 1) (.slice qa k qc) m ∧
    wr.heap[X2]? = some (.cells #[.int .i64 nodes, .int .i64 copies, .slice qa k qc, .slice la L.length lc] 25 (0, 0)) ∧ wr.heap[w.heap.size + 1]? = some (.cells #[.int .i64 0, .int .i64 0, .slice none 0 0, .slice none 0 0] 25 (0, 0)) ∧
    wr.heap[w.heap.size]? = some (.cells #[.int .i64 nodes, .int .i64 copies, .slice pa P.length pc, .slice la L.length lc] 25 (0, 0)) ∧ Below w.heap.size w wr)
  case atStart => exact ⟨0, none, 0, [], Nat.zero_le _, rfl, rfl, rfl, rfl, OwnP.nil _ _, HA.out.2.2.2, HA.out.2.2.1, HA.out.2.1, HA.out.1⟩
  case round =>
    obtain ⟨k, qa, qc, m, hk, rfl, rfl, hml, hmp, hown, hx2, hx1, hx0, hbel⟩ := hrel
    have HX := Lib.hid (And.intro hml (And.intro hmp (And.intro hown (And.intro hx2 (And.intro hx1 (And.intro hx0 hbel))))))
    have hsz := hbel.size
    have hxlt : X2 < wr.heap.size := (Array.getElem?_eq_some_iff.1 hx2).1
    have b2 := cells_of hx0 2 _ rfl
    by_cases hlt : k < P.length
    · obtain ⟨b, off, ca, cc, rfl, hb, c0, c1, c2, hch⟩ := HP.out k hlt
      have c0 := below_some hbel c0 hb
      have c1 := below_some hbel c1 hb
      have c2 := below_some hbel c2 hb
      have i1' : (k : Int) < (P.length : Int) := by omega
      have i2' : (0 : Int) ≤ (k : Int) := by omega
      have htk : P.take (k + 1) = P.take k ++ [P[k]] := by rw [List.take_succ_eq_append_getElem hlt]
      have hc1000 := HS.out.1 _ (List.getElem_mem hlt)
      have hcne := HS.out.2 _ (List.getElem_mem hlt)
      have hchr := hch.below hbel
      obtain ⟨y, hy⟩ : ∃ y, P[k] = y := ⟨_, rfl⟩
      rw [hy] at htk hc1000 hcne hchr c0 c1 c2
      obtain ⟨ep, ch, le⟩ := y
      simp only at hc1000 hcne hchr c0 c1 c2
      obtain ⟨ad, rfl, hcc⟩ : ∃ ad : Addr, ca = some ad ∧ ∀ j u, (intCells ch)[j]? = some u → wr.cell? (ad.add j) = some u := by
        rcases hchr.2 with ⟨-, h0⟩ | ⟨ad, cap', e', -, -, hcc⟩
        · omega
        · simp only [Value.slice.injEq, true_and] at e'
          exact ⟨ad, e'.1, hcc⟩
      have hsrc : ∀ o o' j u, (intCells ch)[j]? = some u → ((wr.alloc o).alloc o').cell? (ad.add j) = some u := by
        intro o o' j u hu
        have hc := hcc j u hu
        have hlt := World.block_lt_of_cell? _ _ hc
        rw [World.cell?_alloc_lt (h := by simp; omega), World.cell?_alloc_lt (h := hlt)]
        exact hc
      have HSRC := Lib.hid hsrc
      have HTK := Lib.hid htk
      have hmade := World.ownsRow_made (e := 3) (size := 1) (base := wr.heap.size + 1) (wr.alloc (.cells #[.int .i64 ep, .slice (some ad) ch.length cc, .int .i64 le] 74)) #[] 0 (by simp) (Nat.zero_le _) rfl
      simp only [World.size_alloc] at hmade
      have HM := Lib.hid hmade
      have hchl : (ch.length : Int) ≤ 1000 := by omega
      clear hch hchr hy hcc hsrc htk hmade hown hmp hx1 hx2 hx0 hbel
      go_upto_region 8 with (first | (at_builtin; refine wpList_append_lies _ rfl _ _ 32 rfl (wr.heap.size + 1) 3 i1 _ 1 8 und_Ints ki kz0 kz1 kz2 rfl (by decide) (.slice (some ⟨wr.heap.size + 1, 0, none⟩) 0 0) 0 [] rfl HM.out ad ch.length cc (intCells ch) rfl (intCells_length ch) (HSRC.out _ _) (oneInts ch) hcne ?_ ?_ ?_ _ rfl ?_; (unfold maxLen; omega); (omega); (simp only [World.size_alloc]; omega); intro g7 cap7 w7 hown7 hgrow7 hat7 hlt7; have hu7 := ((upd_alloc (fun b => b = wr.heap.size + 1) wr (.cells #[.int .i64 ep, .slice (some ad) ch.length cc, .int .i64 le] 74)).trans (upd_alloc _ _ (.cells #[] 3))).trans ((upd_grown hgrow7).mono (fun b _ e => by simpa [Value.ownBlock] using e)); have hX7 := ((upd_grown hgrow7).block wr.heap.size (by simp; omega) (by simp [Value.ownBlock])).trans ((Below.heap_alloc _ _ _ (by simp)).trans (heap_alloc_new wr (.cells #[.int .i64 ep, .slice (some ad) ch.length cc, .int .i64 le] 74))); have hcX := cells_of hX7 1 _ rfl; have hfX : w7.frozen? ⟨wr.heap.size, 1, none⟩ = false := frozen_of hX7; have H7 := Lib.hid (And.intro hown7 (And.intro hu7 hX7)); clear hown7 hgrow7 hat7 hu7 hX7))
      try simp only [Nat.zero_add]
      obtain ⟨w8, hw8⟩ : ∃ w8, w8 = w7.setCell ⟨wr.heap.size, 1, none⟩ (.slice (some ⟨g7, 0, none⟩) ch.length cap7) := ⟨_, rfl⟩
      obtain ⟨q1, q2, q3, q4, q5, q6, q7⟩ := HX.out
      have hset := upd_set1 w7 wr.heap.size 1 (.slice (some ⟨g7, 0, none⟩) ch.length cap7)
      obtain ⟨hown7, hu7, hX7⟩ := H7.out
      have hs7 := hu7.size
      have hb7 : Below wr.heap.size wr w7 := hu7.toBelow (Nat.le_refl _) (fun b e => by omega)
      have hb8 : Below wr.heap.size wr w8 := by rw [hw8]; exact hb7.trans (hset.toBelow hs7 (fun b e => by omega))
      have hX8 : w8.heap[wr.heap.size]? = some (.cells #[.int .i64 ep, .slice (some ⟨g7, 0, none⟩) ch.length cap7, .int .i64 le] 74 (0, 0)) := by rw [hw8]; exact setCell_same hX7
      have hc8 : w8.ownsRow wr.heap.size 3 1 (.slice (some ⟨g7, 0, none⟩) ch.length cap7) ch.length (intCells ch) := by
        rw [hw8]
        have h := owns_mono (owns_upd hown7 hset (fun g hg e => by have := (owns_lt hown7 g hg).1; omega)) (Nat.le_succ wr.heap.size)
        simpa using h
      have hO8 := (hb8.block X2 hxlt).trans q4
      have hB8 := (hb8.block w.heap.size (by omega)).trans q6
      have hN8 := (hb8.block (w.heap.size + 1) (by omega)).trans q5
      have hown8 : w8.ownsRow (X2 + 1) 74 3 (.slice qa k qc) k (partCells m) := by have h := (q3.below hb8).own; rw [q1] at h; exact h
      have o2 := cells_of hO8 2 _ rfl
      have x0 := cells_of hX8 0 _ rfl
      have x1 := cells_of hX8 1 _ rfl
      have x2 := cells_of hX8 2 _ rfl
      have hs8 := hb8.size
      have hkeep : ∀ W, Upd (fun b => some b = (Value.slice qa k qc).ownBlock) w8 W → W.cell? ⟨X2, 2, none⟩ = some (.slice qa k qc) ∧ W.frozen? ⟨X2, 2, none⟩ = false := by
        intro W hu
        have h := (hu.block X2 (by omega) (fun e => by have := (owns_lt hown8 _ e.symm).1; omega)).trans hO8
        exact ⟨cells_of h 2 _ rfl, frozen_of h⟩
      have HK := Lib.hid hkeep
      have H8 := Lib.hid (And.intro hb8 (And.intro hc8 (And.intro hO8 (And.intro hB8 (And.intro hN8 hown8)))))
      rw [← hw8]
      have HXX := Lib.hid (And.intro q1 (And.intro q2 (And.intro q3 q7)))
      clear hw8 hset hown7 hu7 hX7 hs7 hb7 hb8 hX8 hc8 hO8 hB8 hN8 hown8 hkeep q1 q2 q3 q4 q5 q6 q7 HX H7 hcX hfX HM HSRC b2 c0 c1 c2
      go_wp2_with (first | (at_builtin; refine wpList_append_lies _ rfl _ _ 22 rfl (X2 + 1) 74 i2 _ 3 40 und_Parts mi mz0 mz1 mz2 rfl (by decide) (.slice qa k qc) k (partCells m) rfl (H8.out.2.2.2.2.2.alloc _) ⟨w8.heap.size, 0, none⟩ 1 1 [.int .i64 ep, .slice (some ⟨g7, 0, none⟩) ch.length cap7, .int .i64 le] rfl rfl (World.news_of_block (cs := #[.int .i64 ep, .slice (some ⟨g7, 0, none⟩) ch.length cap7, .int .i64 le]) (t := 74) (fr := (0, 0)) (heap_alloc_new w8 _)) (by simp [Value.oneCell']) (by decide) ?_ ?_ ?_ _ rfl ?_; (unfold maxLen; omega); (omega); (simp only [World.size_alloc]; omega); intro g9 cap9 w9 hown9 hgrow9 hat9 hlt9; have hu9 := (upd_alloc (fun b => some b = (Value.slice qa k qc).ownBlock) w8 (.cells #[.int .i64 ep, .slice (some ⟨g7, 0, none⟩) ch.length cap7, .int .i64 le] 74)).trans (upd_grown hgrow9); obtain ⟨z2, fz2⟩ := HK.out _ hu9; have H9 := Lib.hid (And.intro hown9 hu9); clear hown9 hgrow9 hat9 hlt9 hu9))
      go_roundg (P.length - (k + 1))
      case measure => omega
      case rel =>
        obtain ⟨hb8, hc8, hO8, hB8, hN8, hown8⟩ := H8.out
        obtain ⟨hown9, hu9⟩ := H9.out
        obtain ⟨q1, q2, q3, q7⟩ := HXX.out
        have hlo := fun g hg => (owns_lt hown8 g hg).1
        have hsn := q3.snoc (x := ⟨ep, ch, le⟩) (by omega) hb8 hc8 hu9 (by rw [q1]; exact hown9)
        have hO9 := (hu9.block X2 (by omega) (fun e => by have := hlo _ e.symm; omega)).trans hO8
        have hB9 := (hu9.block w.heap.size (by omega) (fun e => by have := hlo _ e.symm; omega)).trans hB8
        have hN9 := (hu9.block (w.heap.size + 1) (by omega) (fun e => by have := hlo _ e.symm; omega)).trans hN8
        have hs9 := hu9.size
        have hset := upd_set1 w9 X2 2 (.slice (some ⟨g9, 0, none⟩) (k + 1) cap9)
        refine ⟨k + 1, some ⟨g9, 0, none⟩, cap9, m ++ [(.slice (some ⟨g7, 0, none⟩) ch.length cap7, ⟨ep, ch, le⟩)], by omega, rfl, by go_num, by simp [q1], ?_, ?_, ?_, ?_, ?_, ?_⟩
        · rw [List.map_append, q2, HTK.out]; rfl
        · exact hsn.low hset (fun b e => by omega)
        · exact setCell_same hO9
        · rw [hset.block _ (by omega) (by omega)]; exact hN9
        · rw [hset.block _ (by omega) (by omega)]; exact hB9
        · exact q7.trans ((hb8.mono hsz).trans ((hu9.toBelow (by omega) (fun b e => by have := hlo b e.symm; omega)).trans (hset.toBelow (by omega) (fun b e => by omega))))
    · have i1' : ¬ (k : Int) < (P.length : Int) := by omega
      have hkp : k = P.length := by omega
      subst hkp
      obtain ⟨q1, q2, q3, q4, q5, q6, q7⟩ := HX.out
      have hkl : P.take P.length = P := List.take_of_length_le (Nat.le_refl _)
      rw [hkl] at q2
      have b3 := cells_of q6 3 _ rfl
      have hxw : w.heap.size < wr.heap.size := by omega
      have hmade := World.ownsRow_made (e := 81) (size := 2) (base := wr.heap.size) wr #[] 0 (Nat.le_refl _) (Nat.zero_le _) rfl
      have HM := Lib.hid hmade
      have hlr := HL.out.below q7
      -- what the append of the lives leaves
      have hfin : ∀ (w7 : World) (v7 : Value) (lc' : Nat) (la' : Option Addr), v7 = .slice la' L.length lc' → w7.ownsRow wr.heap.size 81 2 v7 L.length (lifeCells L) → Below wr.heap.size wr w7 →
          ∃ W2, W2 = ((((w7.setCell ⟨X2, 3, none⟩ v7).setCell ⟨w.heap.size + 1, 0, none⟩ (.int .i64 nodes)).setCell ⟨w.heap.size + 1, 1, none⟩ (.int .i64 copies)).setCell ⟨w.heap.size + 1, 2, none⟩ (.slice qa P.length qc)).setCell ⟨w.heap.size + 1, 3, none⟩ v7 ∧
            W2.cell? ⟨w.heap.size + 1, 0, none⟩ = some (.int .i64 nodes) ∧ W2.cell? ⟨w.heap.size + 1, 1, none⟩ = some (.int .i64 copies) ∧ W2.cell? ⟨w.heap.size + 1, 2, none⟩ = some (.slice qa P.length qc) ∧ W2.cell? ⟨w.heap.size + 1, 3, none⟩ = some v7 ∧
            OwnP W2 w.heap.size (.slice qa P.length qc) m ∧ W2.ownsRow w.heap.size 81 2 v7 L.length (lifeCells L) ∧ Below w.heap.size w W2 := by
        intro w7 v7 lc' la' hv hl7 hb7
        have hs7 := hb7.size
        have hset1 := upd_set1 w7 X2 3 v7
        have hN7 := ((hset1.block (w.heap.size + 1) (by omega) (by omega)).trans (hb7.block (w.heap.size + 1) (by omega))).trans q5
        have hset2 := upd_set4 (w7.setCell ⟨X2, 3, none⟩ v7) (w.heap.size + 1) (.int .i64 nodes) (.int .i64 copies) (.slice qa P.length qc) v7
        have hf := setCell_same (o := 3) (v := v7) (setCell_same (o := 2) (v := .slice qa P.length qc) (setCell_same (o := 1) (v := .int .i64 copies) (setCell_same (o := 0) (v := .int .i64 nodes) hN7)))
        have hs8 := hset1.size
        refine ⟨_, rfl, cells_of hf 0 _ rfl, cells_of hf 1 _ rfl, cells_of hf 2 _ rfl, cells_of hf 3 _ rfl, ?_, ?_, ?_⟩
        · exact (((q3.below hb7).low hset1 (fun b e => by omega)).low hset2 (fun b e => by omega)).mono (by omega)
        · exact owns_mono (owns_upd (owns_upd hl7 hset1 (fun g hg e => by have := (owns_lt hl7 g hg).1; omega)) hset2 (fun g hg e => by have := (owns_lt hl7 g hg).1; omega)) hsz
        · exact q7.trans ((hb7.mono hsz).trans ((hset1.toBelow (by omega) (fun b e => by omega)).trans (hset2.toBelow (by omega) (fun b e => by omega))))
      have hcl : ∀ w7, Below wr.heap.size wr w7 → (w7.heap[X2]? = some (.cells #[.int .i64 nodes, .int .i64 copies, .slice qa P.length qc, .slice la L.length lc] 25 (0, 0)) ∧ w7.heap[w.heap.size + 1]? = some (.cells #[.int .i64 0, .int .i64 0, .slice none 0 0, .slice none 0 0] 25 (0, 0))) :=
        fun w7 hb => ⟨(hb.block X2 hxlt).trans q4, (hb.block _ (by omega)).trans q5⟩
      have HFIN := Lib.hid hfin
      have HCL := Lib.hid hcl
      have HQ2 := Lib.hid q2
      clear q1 q2 q3 q4 q5 q6 q7 hkl hmade hfin hcl hown hmp hx1 hx2 hx0 hbel HX
      rcases hlr.2 with ⟨e', h0⟩ | ⟨ad, cap', e', -, -, hcc⟩
      · simp only [Value.slice.injEq] at e'
        obtain ⟨rfl, -, rfl⟩ := e'
        have hLn : L = [] := List.eq_nil_of_length_eq_zero h0
        have HLN := Lib.hid (And.intro h0 hLn)
        obtain ⟨wz, hwz⟩ : ∃ wz, wz = wr.alloc (.cells #[] 81) := ⟨_, rfl⟩
        have hb7 : Below wr.heap.size wr wz := by rw [hwz]; exact below_alloc _ _
        have hown7 : wz.ownsRow wr.heap.size 81 2 (.slice (some ⟨wr.heap.size, 0, none⟩) 0 0) L.length (lifeCells L) := by rw [hLn, hwz]; exact HM.out
        have H7 := Lib.hid (And.intro hown7 hb7)
        obtain ⟨hO, hN⟩ := HCL.out _ hb7
        have o3 := cells_of hO 3 _ rfl
        have go3 : World.frozen? _ ⟨X2, 3, none⟩ = false := frozen_of hO
        have o0 := cells_of hO 0 _ rfl
        have o1 := cells_of hO 1 _ rfl
        have o2 := cells_of hO 2 _ rfl
        have n0 := cells_of hN 0 _ rfl
        have n1 := cells_of hN 1 _ rfl
        have n2 := cells_of hN 2 _ rfl
        have n3 := cells_of hN 3 _ rfl
        have g0 := frozen_of (j := 0) hN
        have g1 := frozen_of (j := 1) hN
        have g2 := frozen_of (j := 2) hN
        have g3 := frozen_of (j := 3) hN
        have HWZ := Lib.hid hwz
        clear hb7 hO hN hLn h0 hown7 hwz
        go_wp2_with (first | (at_builtin; refine wpList_append_own_none rfl _ _ 23 rfl wr.heap.size 81 i3 2 und_Lives ni (.slice (some ⟨wr.heap.size, 0, none⟩) 0 0) 0 [] rfl HM.out (by show Value.slice none L.length 0 = _; rw [HLN.out.1]) ?_; rw [← HWZ.out]))
        obtain ⟨W2, hW2, r0, r1, r2, r3, hpo, hlo, hbo⟩ := HFIN.out wz (.slice (some ⟨wr.heap.size, 0, none⟩) 0 0) 0 (some ⟨wr.heap.size, 0, none⟩) (by rw [HLN.out.1]) H7.out.1 H7.out.2
        rw [hW2] at r0 r1 r2 r3 hpo hlo hbo
        exact bodyPost_ret (v := .agg #[.int .i64 nodes, .int .i64 copies, .slice qa P.length qc, .slice (some ⟨wr.heap.size, 0, none⟩) 0 0]) (by simp [results, Tryz.results42, go_sem, r0, r1, r2, r3]) rfl ⟨qa, some ⟨wr.heap.size, 0, none⟩, qc, 0, m, by simp only [planV, HLN.out.1], HQ2.out, hpo, (by have h := hlo; simp only [HLN.out.1] at h ⊢; exact h), hbo⟩
      · simp only [Value.slice.injEq, true_and] at e'
        obtain ⟨rfl, rfl⟩ := e'
        have hsrc : ∀ j u, (lifeCells L)[j]? = some u → (wr.alloc (.cells #[] 81)).cell? (ad.add j) = some u := by
          intro j u hu
          have hc := hcc j u hu
          rw [World.cell?_alloc_lt (h := World.block_lt_of_cell? _ _ hc)]
          exact hc
        have HSRC := Lib.hid hsrc
        clear hcc hsrc hlr
        go_wp2_with (first | (at_builtin; refine wpList_append_own _ rfl _ _ 23 rfl wr.heap.size 81 i3 _ 2 16 und_Lives ni nz0 nz1 nz2 rfl (by decide) (.slice (some ⟨wr.heap.size, 0, none⟩) 0 0) 0 [] rfl HM.out ad L.length lc (lifeCells L) rfl (lifeCells_length L) HSRC.out (oneLives L) ?_ ?_ ?_ ?_; (unfold maxLen; omega); omega; simp; intro v7 w7 hown7 hgrow7 _; simp only [Nat.zero_add, List.nil_append] at hown7; obtain ⟨la7, lc7, rfl, -⟩ := (Sl.of_owns hown7).shape; have hb7 : Below wr.heap.size wr w7 := ((Below.refl _ wr).alloc (Nat.le_refl _) _).grown hgrow7 (by simp) (fun k e => by simp [Value.ownBlock] at e; omega); obtain ⟨hO, hN⟩ := HCL.out _ hb7; have o3 := cells_of hO 3 _ rfl; have go3 : World.frozen? _ ⟨X2, 3, none⟩ = false := frozen_of hO; have o0 := cells_of hO 0 _ rfl; have o1 := cells_of hO 1 _ rfl; have o2 := cells_of hO 2 _ rfl; have n0 := cells_of hN 0 _ rfl; have n1 := cells_of hN 1 _ rfl; have n2 := cells_of hN 2 _ rfl; have n3 := cells_of hN 3 _ rfl; have g0 := frozen_of (j := 0) hN; have g1 := frozen_of (j := 1) hN; have g2 := frozen_of (j := 2) hN; have g3 := frozen_of (j := 3) hN; have H7 := Lib.hid (And.intro hown7 hb7); clear hown7 hgrow7 hb7 hO hN))
        obtain ⟨W2, hW2, r0, r1, r2, r3, hpo, hlo, hbo⟩ := HFIN.out w7 (.slice la7 L.length lc7) lc7 la7 rfl H7.out.1 H7.out.2
        rw [hW2] at r0 r1 r2 r3 hpo hlo hbo
        exact bodyPost_ret (v := .agg #[.int .i64 nodes, .int .i64 copies, .slice qa P.length qc, (.slice la7 L.length lc7)]) (by simp [results, Tryz.results42, go_sem, r0, r1, r2, r3]) rfl ⟨qa, la7, qc, lc7, m, rfl, HQ2.out, hpo, hlo, hbo⟩
end Go.Proofs.YtjkobbmdemooaaaGreatDoor
