/- The walks of the reference's place and New of layer 12. -/
import Derived.Test.YtjkobbmdemooaaaGreatDoorPx18
import Derived.Test.YtjkobbmdemooaaaGreatDoorPx12
namespace Go.Proofs.YtjkobbmdemooaaaGreatDoor
open Go.RowKit

set_option maxRecDepth 100000 in
set_option maxHeartbeats 2000000 in
theorem R12place_any (p n c : Nat) (w : World) (hn : 0 < n) (hp : p ≤ 1000) (hn2 : n ≤ 1000) (hc : c ≤ 1000) :
    Calls Tryz.prog 45 #[.int .i64 p, .int .i64 n, .int .i64 c] w (PlaceOut w p n c) := by
  obtain ⟨i1, ki, kz0, kz1, kz2⟩ := info_parts info_Int
  have b1 : (p : Int) ≤ 1000 := by omega
  have b2 : (n : Int) ≤ 1000 := by omega
  have b3 : (c : Int) ≤ 1000 := by omega
  go_enter Tryz.func45, Tryz.ntmps45
  go_wp2
  go_loopg [8] c (fun gk i wr => ∃ (k : Nat) (cv : Value), k ≤ c ∧ gk = c - k ∧ i = .int .i64 k ∧ wr.ownsRow (w.heap.size + 2) 3 1 cv k (intCells (chainP p n k)) ∧
    wr.heap[w.heap.size + 1]? = some (.cells #[.int .i64 1, cv, .int .i64 0] 74 (0, 0)) ∧ wr.heap[w.heap.size]? = some (.cells #[.int .i64 0, .slice none 0 0, .int .i64 0] 74 (0, 0)) ∧ Below w.heap.size w wr)
  case atStart =>
    refine ⟨0, _, Nat.zero_le _, rfl, rfl, World.ownsRow_nil _ _ _ _, heap_new1 _ _ _, ?_, below_alloc2 _ _ _⟩
    rw [Below.heap_alloc _ _ _ (by simp)]
    exact heap_alloc_new w _
  case round =>
    obtain ⟨k, cv, hk, rfl, rfl, hown, hx, h0, hbel⟩ := hrel
    have HX := Lib.hid (And.intro hown (And.intro hx (And.intro h0 hbel)))
    have hsz := hbel.size
    have hxlt : w.heap.size + 1 < wr.heap.size := (Array.getElem?_eq_some_iff.1 hx).1
    clear hown h0 hbel
    by_cases hlt : k < c
    · have i1' : (k : Int) < (c : Int) := by omega
      have i2 : (0 : Int) ≤ (k : Int) := by omega
      have e1 : IntKind.i64.wrap ((p : Int) + (k : Int)) = ((p + k : Nat) : Int) := by rw [IntWalk.i64_in _ (by omega)]; omega
      have hmod : (p + k) % n < n := Nat.mod_lt _ hn
      have e3 : IntKind.i64.wrap (((p : Int) + (k : Int)).tmod (n : Int) + 1) = (((p + k) % n + 1 : Nat) : Int) := by
        have : ((p : Int) + (k : Int)).tmod (n : Int) = (((p + k) % n : Nat) : Int) := by rw [Int.tmod_eq_emod_of_nonneg (by omega)]; push_cast; rfl
        rw [this, IntWalk.i64_in _ (by omega)]; omega
      have hn0 : ¬ n = 0 := by omega
      have hsucc := chainP_succ p n k
      generalize ((p + k) % n + 1 : Nat) = y at *
      have c1 : wr.cell? ⟨w.heap.size + 1, 1, none⟩ = some cv := by rw [cell_of_row wr _ 1 _ _ _ hx]; rfl
      have hkeep : ∀ w', Upd (fun b => some b = cv.ownBlock) wr w' → w'.cell? ⟨w.heap.size + 1, 1, none⟩ = some cv ∧ w'.frozen? ⟨w.heap.size + 1, 1, none⟩ = false := by
        intro w' hu
        have hne : ¬ some (w.heap.size + 1) = cv.ownBlock := fun e => by have := (owns_lt HX.out.1 _ e.symm).1; omega
        have hbk := hu.block _ hxlt hne
        refine ⟨(World.cell?_of_block hbk).trans c1, (World.frozen?_of_block hbk).trans ?_⟩
        simp [World.frozen?, hx]
      have HK := Lib.hid hkeep
      clear hkeep hx
      have hb2 : w.heap.size + 2 ≤ wr.heap.size + 1 := by omega
      have hs2 : intCells (chainP p n (k + 1)) = intCells (chainP p n k) ++ [.int .i64 (y : Int)] := by rw [hsucc]; simp [intCells]
      generalize hX : w.heap.size + 1 = X at *
      have HHX := Lib.hid (And.intro hX hs2)
      clear hX hs2 hsucc
      go_wp2
      have ca : ∀ o, (wr.alloc o).cell? ⟨X, 1, none⟩ = some cv := fun o => (HK.out _ (upd_alloc _ wr o)).1
      go_region_law
        (first
          | (refine step_append_lies _ (by rfl) _ _ _ (by rfl) (w.heap.size + 2) 3 i1 _ 1 8 und_Ints ki kz0 kz1 kz2 rfl (by omega) cv k (intCells (chainP p n k)) (by rfl) (HX.out.1.alloc _) ⟨wr.heap.size, 0, none⟩ 1 1 [.int .i64 (y : Int)] (by rfl) (by rfl) (World.news_of_block (cs := #[.int .i64 (y : Int)]) (t := 3) (fr := (0, 0)) (heap_alloc_new wr _)) (by simp [Value.oneCell']) (by omega) ?_ ?_ ?_ _ rfl ?_; (unfold maxLen; omega); omega; (first | (simp only [World.size_alloc, World.size_drew]; omega) | omega); rintro g9 gcap9 w9 hown9 hgrow9 - hlt9; obtain ⟨c9, f9⟩ := HK.out w9 (((upd_alloc _ wr _).trans (upd_drew _ _)).trans (upd_grown hgrow9))))
      all_goals
        have hu9 := ((upd_alloc (fun b => some b = cv.ownBlock) wr (.cells #[.int .i64 (y : Int)] 3)).trans (upd_drew _ _)).trans (upd_grown hgrow9)
        have HY := Lib.hid (And.intro hown9 hu9)
        clear hown9 hu9 hgrow9 c9 f9 ca c1
        go_wp2
        go_roundg (c - (k + 1))
        case measure => omega
        case rel =>
          have hX := HHX.out.1
          have hlo := owns_lt HY.out.1 g9 rfl
          have hne : ¬ some X = cv.ownBlock := fun e => by have := (owns_lt HX.out.1 _ e.symm).1; omega
          have hneN : ¬ some w.heap.size = cv.ownBlock := fun e => by have := (owns_lt HX.out.1 _ e.symm).1; omega
          have hx9 := (HY.out.2.block X hxlt hne).trans HX.out.2.1
          have h09 := (HY.out.2.block w.heap.size (by omega) hneN).trans HX.out.2.2.1
          have hset := upd_setCell (F := fun b => b = X) (Upd.refl _ w9) (b := X) (o := 1) rfl (.slice (some ⟨g9, 0, none⟩) (k + 1) gcap9)
          refine ⟨k + 1, .slice (some ⟨g9, 0, none⟩) (k + 1) gcap9, by omega, rfl, by go_num, ?_, ?_, ?_, ?_⟩
          · rw [HHX.out.2]
            exact owns_upd HY.out.1 hset (fun g hg e => by have := (owns_lt HY.out.1 g hg).1; omega)
          · exact setCell_same hx9
          · rw [hset.block w.heap.size (by have := HY.out.2.size; omega) (by omega)]
            exact h09
          · exact HX.out.2.2.2.trans ((HY.out.2.toBelow hsz (fun b e => by have := (owns_lt HX.out.1 b e.symm).1; omega)).trans (hset.toBelow (by have := HY.out.2.size; omega) (fun b e => by omega)))
    · have i1' : ¬ (k : Int) < (c : Int) := by omega
      have hkc : k = c := by omega
      subst hkc
      obtain ⟨ca, cc, rfl, -⟩ := (Sl.of_owns HX.out.1).shape
      have hx := HX.out.2.1
      have h0 := HX.out.2.2.1
      have d0 := cells_of hx 0 _ rfl
      have d1 := cells_of hx 1 _ rfl
      have d2 := cells_of hx 2 _ rfl
      have n0 := cells_of h0 0 _ rfl
      have n1 := cells_of h0 1 _ rfl
      have n2 := cells_of h0 2 _ rfl
      have f0 := frozen_of (j := 0) h0
      have f1 := frozen_of (j := 1) h0
      have f2 := frozen_of (j := 2) h0
      have HH := Lib.hid h0
      clear hx h0
      go_wp2
      have hf := setCell_same (o := 2) (v := .int .i64 0) (setCell_same (o := 1) (v := .slice ca k cc) (setCell_same (o := 0) (v := .int .i64 1) HH.out))
      have r0 := cells_of hf 0 _ rfl
      have r1 := cells_of hf 1 _ rfl
      have r2 := cells_of hf 2 _ rfl
      refine bodyPost_ret (v := .agg #[.int .i64 1, .slice ca k cc, .int .i64 0]) (by simp [results, Tryz.results45, go_sem, r0, r1, r2]) rfl ⟨_, rfl, ?_, ?_⟩
      · have hset3 := upd_set3 wr w.heap.size (.int .i64 1) (.slice ca k cc) (.int .i64 0)
        exact owns_mono (owns_upd HX.out.1 hset3 (fun g hg e => by have := (owns_lt HX.out.1 g hg).1; omega)) (by omega)
      · have hset3 := upd_set3 wr w.heap.size (.int .i64 1) (.slice ca k cc) (.int .i64 0)
        exact HX.out.2.2.2.trans (hset3.toBelow hsz (fun b e => by omega))
set_option maxRecDepth 100000 in
set_option maxHeartbeats 2000000 in
theorem R12New_no (n k p c a b d e' : Int) (w : World) (h : newOkB n p c = false) : Calls Tryz.prog 12 #[cfgV n k p c a b d e'] w fun e w' =>
    e = .returned (.tuple #[zeroPlan, .int .i64 1]) ∧ Below w.heap.size w w' := by
  by_cases a1 : n < 1
  · clear h
    go_enter Tryz.func12, Tryz.ntmps12
    go_wp2
    refine bodyPost_ret (v := .tuple #[zeroPlan, .int .i64 1]) (by simp [results, Tryz.results12, go_sem]) rfl ⟨rfl, ?_⟩
    exact below_alloc2 _ _ _
  by_cases a2 : 5 < n
  · clear h
    go_enter Tryz.func12, Tryz.ntmps12
    go_wp2
    refine bodyPost_ret (v := .tuple #[zeroPlan, .int .i64 1]) (by simp [results, Tryz.results12, go_sem]) rfl ⟨rfl, ?_⟩
    exact below_alloc2 _ _ _
  by_cases a3 : c < 1
  · clear h
    go_enter Tryz.func12, Tryz.ntmps12
    go_wp2
    refine bodyPost_ret (v := .tuple #[zeroPlan, .int .i64 1]) (by simp [results, Tryz.results12, go_sem]) rfl ⟨rfl, ?_⟩
    exact below_alloc2 _ _ _
  by_cases a4 : n < c
  · clear h
    go_enter Tryz.func12, Tryz.ntmps12
    go_wp2
    refine bodyPost_ret (v := .tuple #[zeroPlan, .int .i64 1]) (by simp [results, Tryz.results12, go_sem]) rfl ⟨rfl, ?_⟩
    exact below_alloc2 _ _ _
  by_cases a5 : p < 2
  · clear h
    go_enter Tryz.func12, Tryz.ntmps12
    go_wp2
    refine bodyPost_ret (v := .tuple #[zeroPlan, .int .i64 1]) (by simp [results, Tryz.results12, go_sem]) rfl ⟨rfl, ?_⟩
    exact below_alloc2 _ _ _
  by_cases a6 : 4 < p
  · clear h
    go_enter Tryz.func12, Tryz.ntmps12
    go_wp2
    refine bodyPost_ret (v := .tuple #[zeroPlan, .int .i64 1]) (by simp [results, Tryz.results12, go_sem]) rfl ⟨rfl, ?_⟩
    exact below_alloc2 _ _ _
  exfalso
  have : newOkB n p c = true := by simp [newOkB, inB_iff]; omega
  rw [this] at h
  cases h

set_option maxRecDepth 100000 in
set_option maxHeartbeats 2000000 in
theorem R12New_yes (n p c : Nat) (k0 a b d e' : Int) (w : World) (h : newOkB n p c = true) : Calls Tryz.prog 12 #[cfgV n k0 p c a b d e'] w fun e w' =>
    ∃ v, e = .returned (.tuple #[v, .int .i64 0]) ∧ PlanFrom w' w.heap.size v (newP n p c) ∧ Below w.heap.size w w' := by
  obtain ⟨h1, h2, h3⟩ : inB n 1 5 = true ∧ inB c 1 n = true ∧ inB p 2 4 = true := by simpa [newOkB, and_assoc] using h
  have q1 := inB_iff.1 h1
  have q2 := inB_iff.1 h2
  have q3 := inB_iff.1 h3
  have hn : 0 < n := by omega
  have hn5 : n ≤ 5 := by omega
  have hc5 : c ≤ 5 := by omega
  have hp4 : p ≤ 4 := by omega
  obtain ⟨i1, ki, kz0, kz1, kz2⟩ := info_parts info_Part
  have t1 : ¬ (n : Int) < 1 := by omega
  have t2 : ¬ 5 < (n : Int) := by omega
  have t3 : ¬ (c : Int) < 1 := by omega
  have t4 : ¬ (n : Int) < (c : Int) := by omega
  have t4' : decide (n < c) = false := decide_eq_false (by omega)
  have t5 : ¬ (p : Int) < 2 := by omega
  have t6 : ¬ 4 < (p : Int) := by omega
  go_enter Tryz.func12, Tryz.ntmps12
  go_wp2
  clear t1 t2 t3 t4 t4' t5 t6
  go_loopg [5] p (fun gk i wr => ∃ (k : Nat) (pa : Option Addr) (pc : Nat) (m : List (Value × Pt)), k ≤ p ∧ gk = p - k ∧ i = .int .i64 k ∧ m.length = k ∧ m.map (·.2) = (List.range k).map (fun i => placeP i n c) ∧ OwnP wr (w.heap.size + 3) (.slice pa k pc) m ∧
    wr.heap[w.heap.size + 2]? = some (.cells #[.int .i64 n, .int .i64 c, .slice pa k pc, .slice none 0 0] 25 (0, 0)) ∧ wr.heap[w.heap.size + 1]? = some (.cells #[.int .i64 0, .int .i64 0, .slice none 0 0, .slice none 0 0] 25 (0, 0)) ∧
    wr.heap[w.heap.size]? = some (.cells #[.int .i64 n, .int .i64 k0, .int .i64 p, .int .i64 c, .int .i64 a, .int .i64 b, .int .i64 d, .int .i64 e'] 29 (0, 0)) ∧ Below w.heap.size w wr)
  case atStart =>
    refine ⟨0, none, 0, [], Nat.zero_le _, rfl, rfl, rfl, rfl, OwnP.nil _ _, ?_, ?_, ?_, below_alloc3 _ _ _ _⟩
    · exact heap_new2 _ _ _ _
    · rw [Below.heap_alloc _ _ _ (by simp)]
      exact heap_new1 w _ _
    · rw [Below.heap_alloc _ _ _ (by simp; omega), Below.heap_alloc _ _ _ (by simp)]
      exact heap_alloc_new w _
  case round =>
    obtain ⟨k, pa, pc, m, hk, rfl, rfl, hml, hmp, hown, hx, h0, hcf, hbel⟩ := hrel
    have HX := Lib.hid (And.intro hml (And.intro hmp (And.intro hown (And.intro hx (And.intro h0 (And.intro hcf hbel))))))
    have hsz := hbel.size
    have cp2 := cells_of hcf 2 _ rfl
    have hxlt : w.heap.size + 2 < wr.heap.size := (Array.getElem?_eq_some_iff.1 hx).1
    have hlo := fun g hg => (owns_lt hown.own g hg).1
    by_cases hlt : k < p
    · have i1' : (k : Int) < (p : Int) := by omega
      have i2 : (0 : Int) ≤ (k : Int) := by omega
      have hkeep : ∀ w', Upd (fun b => some b = (Value.slice pa k pc).ownBlock) wr w' → w'.cell? ⟨w.heap.size, 0, none⟩ = some (.int .i64 n) ∧ w'.cell? ⟨w.heap.size, 3, none⟩ = some (.int .i64 c) ∧
          w'.cell? ⟨w.heap.size + 2, 2, none⟩ = some (.slice pa k pc) ∧ w'.frozen? ⟨w.heap.size + 2, 2, none⟩ = false := by
        intro w' hu
        have hne2 : ¬ some (w.heap.size + 2) = (Value.slice pa k pc).ownBlock := fun e => by have := hlo _ e.symm; omega
        have hne0 : ¬ some w.heap.size = (Value.slice pa k pc).ownBlock := fun e => by have := hlo _ e.symm; omega
        have b2 := (hu.block _ hxlt hne2).trans hx
        have b0 := (hu.block _ (by omega) hne0).trans hcf
        exact ⟨cells_of b0 0 _ rfl, cells_of b0 3 _ rfl, cells_of b2 2 _ rfl, frozen_of b2⟩
      have HK := Lib.hid hkeep
      have hownk : wr.ownsRow (w.heap.size + 3) 74 3 (.slice pa k pc) k (partCells m) := by have := hown.own; rw [hml] at this; exact this
      have HOWN := Lib.hid hownk
      clear hownk
      obtain ⟨c0, c3, x2, fx⟩ := hkeep wr (Upd.refl _ _)
      obtain ⟨e0, e3, e2, -⟩ := hkeep wr.drew (upd_drew _ _)
      have HE := Lib.hid (And.intro e0 (And.intro e3 e2))
      clear e0 e3 e2
      have hb3 : w.heap.size + 3 ≤ wr.heap.size := by omega
      have HLO := Lib.hid hlo
      clear hkeep hx h0 hcf hown hmp hlo hbel
      generalize hX : w.heap.size + 2 = X at *
      have HHX := Lib.hid hX
      clear hX
      go_wp2
      go_region_law
        (first
          | (refine step_append_lies _ (by rfl) _ _ _ (by rfl) (w.heap.size + 3) 74 i1 _ 3 40 und_Parts ki kz0 kz1 kz2 rfl (by omega) (.slice pa k pc) k (partCells m) (by rfl) ((owns_upd HOWN.out hu5 (fun _ _ h => h)).alloc _) ⟨w5.heap.size, 0, none⟩ 1 1 [.int .i64 1, .slice ca c cc, .int .i64 0] (by rfl) (by rfl) (World.news_of_block (cs := #[.int .i64 1, .slice ca c cc, .int .i64 0]) (t := 74) (fr := (0, 0)) (heap_alloc_new w5 _)) (by simp [Value.oneCell']) (by omega) ?_ ?_ ?_ _ rfl ?_; (unfold maxLen; omega); omega; (first | (simp only [World.size_alloc, World.size_drew]; omega) | omega); rintro g9 gcap9 w9 hown9 hgrow9 - hlt9; obtain ⟨_, _, c9, f9⟩ := HK.out w9 (((Upd.of_below hu5.below).trans (upd_alloc _ w5 _)).trans (upd_grown hgrow9)))
          | (go_simp; go_at_call 45; refine (R12place_any k n c _ hn (by omega) (by omega) (by omega)).mono ?_; rintro e w5 ⟨cv, rfl, hown5, hb5⟩; obtain ⟨ca, cc, rfl, -⟩ := (Sl.of_owns hown5).shape; have hu5 : Upd (fun _ => False) wr w5 := (upd_drew _ wr).trans (Upd.of_below hb5); have hs5 := hu5.size; obtain ⟨c50, c53, c55, f5⟩ := HK.out w5 (Upd.of_below hu5.below); have hka : ∀ o, (w5.alloc o).cell? ⟨X, 2, none⟩ = some (.slice pa k pc) := fun o => (HK.out (w5.alloc o) ((Upd.of_below hu5.below).trans (upd_alloc _ w5 o))).2.2.1))
      all_goals
        have hu9 := ((Upd.of_below (F := fun b => some b = (Value.slice pa k pc).ownBlock) hu5.below).trans (upd_alloc _ w5 (.cells #[.int .i64 1, .slice ca c cc, .int .i64 0] 74))).trans (upd_grown hgrow9)
        have hsn := HX.out.2.2.1.snoc (x := placeP k n c) hb3 hu5.below (cv := .slice ca c cc) (by have := owns_mono (base' := wr.heap.size) hown5 (Nat.le_refl _); simpa [placeP, chainP_length] using this) ((upd_alloc _ w5 (.cells #[.int .i64 1, .slice ca c cc, .int .i64 0] 74)).trans (upd_grown hgrow9)) (by rw [HX.out.1]; exact hown9)
        have HY := Lib.hid (And.intro hsn hu9)
        clear hsn hu9 hgrow9 hown9 hown5 hb5 hu5 c9 f9 hka c50 c53 c55 f5 c0 c3 x2 fx
        go_wp2
        go_roundg (p - (k + 1))
        case measure => omega
        case rel =>
          have hX := HHX.out
          obtain ⟨q1, q2, q3, q4, q5, q6, q7⟩ := HX.out
          have hlo : ∀ g, (Value.slice pa k pc).ownBlock = some g → w.heap.size + 3 ≤ g := HLO.out
          have hX2 := (HY.out.2.block X hxlt (fun e => by have := hlo _ e.symm; omega)).trans q4
          have h02 := (HY.out.2.block (w.heap.size + 1) (by omega) (fun e => by have := hlo _ e.symm; omega)).trans q5
          have hc2 := (HY.out.2.block w.heap.size (by omega) (fun e => by have := hlo _ e.symm; omega)).trans q6
          have hs9 := HY.out.2.size
          have hset := upd_set1 w9 X 2 (.slice (some ⟨g9, 0, none⟩) (k + 1) gcap9)
          refine ⟨k + 1, some ⟨g9, 0, none⟩, gcap9, m ++ [(.slice ca c cc, placeP k n c)], by omega, rfl, by go_num, by simp [q1], ?_, ?_, ?_, ?_, ?_, ?_⟩
          · rw [List.map_append, q2, List.range_succ, List.map_append]; rfl
          · exact HY.out.1.low hset (fun b e => by omega)
          · exact setCell_same hX2
          · rw [hset.block _ (by omega) (by omega)]; exact h02
          · rw [hset.block _ (by omega) (by omega)]; exact hc2
          · exact q7.trans ((HY.out.2.toBelow hsz (fun b e => by have := hlo b e.symm; omega)).trans (hset.toBelow (by omega) (fun b e => by omega)))
    · have i1' : ¬ (k : Int) < (p : Int) := by omega
      have hkp : k = p := by omega
      subst hkp
      obtain ⟨q1, q2, q3, q4, q5, q6, q7⟩ := HX.out
      have x0 := cells_of q4 0 _ rfl
      have x1 := cells_of q4 1 _ rfl
      have x2 := cells_of q4 2 _ rfl
      have x3 := cells_of q4 3 _ rfl
      have n0 := cells_of q5 0 _ rfl
      have n1 := cells_of q5 1 _ rfl
      have n2 := cells_of q5 2 _ rfl
      have n3 := cells_of q5 3 _ rfl
      have f0 := frozen_of (j := 0) q5
      have f1 := frozen_of (j := 1) q5
      have f2 := frozen_of (j := 2) q5
      have f3 := frozen_of (j := 3) q5
      have HH := Lib.hid (And.intro q2 (And.intro q3 (And.intro q5 q7)))
      clear q1 q2 q3 q4 q5 q6 q7 hx h0 hcf hown hmp hbel
      go_wp2
      obtain ⟨q2, q3, q5, q7⟩ := HH.out
      have hf := setCell_same (o := 3) (v := .slice none 0 0) (setCell_same (o := 2) (v := .slice pa k pc) (setCell_same (o := 1) (v := .int .i64 c) (setCell_same (o := 0) (v := .int .i64 n) q5)))
      have r0 := cells_of hf 0 _ rfl
      have r1 := cells_of hf 1 _ rfl
      have r2 := cells_of hf 2 _ rfl
      have r3 := cells_of hf 3 _ rfl
      have hset := upd_set4 wr (w.heap.size + 1) (.int .i64 n) (.int .i64 c) (.slice pa k pc) (.slice none 0 0)
      refine bodyPost_ret (v := .tuple #[.agg #[.int .i64 n, .int .i64 c, .slice pa k pc, .slice none 0 0], .int .i64 0]) (by simp [results, Tryz.results12, go_sem, r0, r1, r2, r3]) rfl ⟨_, rfl, ?_, ?_⟩
      · have hl1 : (newP n k c).parts.length = k := by simp [newP]
        have hl2 : (newP n k c).lives.length = 0 := by simp [newP]
        have hF := PlanFrom.of_owns (p := newP n k c) (pa := pa) (pc := pc) (la := none) (lc := 0) (m := m) (N := w.heap.size) (by rw [hl1]; exact (q3.low hset (fun b e => by omega)).mono (by omega)) (by rw [q2]; rfl) (by rw [hl2]; exact World.ownsRow_nil _ _ _ _)
        simp only [planV, hl1, hl2] at hF
        exact hF
      · exact q7.trans (hset.toBelow hsz (fun b e => by omega))
end Go.Proofs.YtjkobbmdemooaaaGreatDoor
