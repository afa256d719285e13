/- The walks of plan.place and plan.New. -/
import Derived.Test.YtjkobbmdemooaaaDoorPlD
namespace Go.Proofs.YtjkobbmdemooaaaDoor
open Go.RowKit

def chainP (p n c : Nat) : List Int := (List.range c).map fun i => (((p + i) % n + 1 : Nat) : Int)
theorem chainP_length (p n c : Nat) : (chainP p n c).length = c := by simp [chainP]
theorem chainP_succ (p n c : Nat) : chainP p n (c + 1) = chainP p n c ++ [(((p + c) % n + 1 : Nat) : Int)] := by simp [chainP, List.range_succ]

def placeP (p n c : Nat) : Pt := ⟨1, chainP p n c, 0⟩

def PlaceOut (w : World) (p n c : Nat) (e : Ending) (w' : World) : Prop :=
  ∃ cv, e = .returned (.agg #[.int .i64 1, cv, .int .i64 0]) ∧ w'.ownsRow w.heap.size 3 1 cv c (intCells (chainP p n c)) ∧ Below w.heap.size w w'

set_option maxRecDepth 100000 in
set_option maxHeartbeats 2000000 in
theorem place_any (p n c : Nat) (w : World) (hn : 0 < n) (hp : p ≤ 1000) (hn2 : n ≤ 1000) (hc : c ≤ 1000) :
    Calls Tryd.prog 35 #[.int .i64 p, .int .i64 n, .int .i64 c] w (PlaceOut w p n c) := by
  obtain ⟨i1, ki, kz0, kz1, kz2⟩ := info_parts info_Int
  have b1 : (p : Int) ≤ 1000 := by omega
  have b2 : (n : Int) ≤ 1000 := by omega
  have b3 : (c : Int) ≤ 1000 := by omega
  go_enter Tryd.func35, Tryd.ntmps35
  go_wp2
  go_loopg [8, 11] c (fun gk _ i wr => ∃ (k : Nat) (cv : Value), k ≤ c ∧ gk = c - k ∧ i = .int .i64 k ∧ wr.ownsRow (w.heap.size + 2) 3 1 cv k (intCells (chainP p n k)) ∧
    wr.heap[w.heap.size + 1]? = some (.cells #[.int .i64 1, cv, .int .i64 0] 39 (0, 0)) ∧ wr.heap[w.heap.size]? = some (.cells #[.int .i64 0, .slice none 0 0, .int .i64 0] 39 (0, 0)) ∧ Below w.heap.size w wr)
  case atStart =>
    refine ⟨0, _, Nat.zero_le _, rfl, rfl, World.ownsRow_nil _ _ _ _, heap_new1 _ _ _, ?_, below_alloc2 _ _ _⟩
    rw [Below.heap_alloc _ _ _ (by simp)]
    exact heap_alloc_new w _
  case round =>
    obtain ⟨k, cv, hk, rfl, rfl, hown, hx, h0, hbel⟩ := hrel
    have HX := Lib.hid (And.intro hown (And.intro hx (And.intro h0 hbel)))
    have hsz := hbel.size
    have hxlt : w.heap.size + 1 < wr.heap.size := (Array.getElem?_eq_some_iff.1 hx).1
    clear hown h0 hbel
    by_cases hlt : k < c
    · have i1' : (k : Int) < (c : Int) := by omega
      have i2 : (0 : Int) ≤ (k : Int) := by omega
      have e1 : IntKind.i64.wrap ((p : Int) + (k : Int)) = ((p + k : Nat) : Int) := by rw [IntWalk.i64_in _ (by omega)]; omega
      have hmod : (p + k) % n < n := Nat.mod_lt _ hn
      have e3 : IntKind.i64.wrap (((p : Int) + (k : Int)).tmod (n : Int) + 1) = (((p + k) % n + 1 : Nat) : Int) := by
        have : ((p : Int) + (k : Int)).tmod (n : Int) = (((p + k) % n : Nat) : Int) := by rw [Int.tmod_eq_emod_of_nonneg (by omega)]; push_cast; rfl
        rw [this, IntWalk.i64_in _ (by omega)]; omega
      have hn0 : ¬ n = 0 := by omega
      have hsucc := chainP_succ p n k
      generalize ((p + k) % n + 1 : Nat) = y at *
      have c1 : wr.cell? ⟨w.heap.size + 1, 1, none⟩ = some cv := by rw [cell_of_row wr _ 1 _ _ _ hx]; rfl
      have hkeep : ∀ w', Upd (fun b => some b = cv.ownBlock) wr w' → w'.cell? ⟨w.heap.size + 1, 1, none⟩ = some cv ∧ w'.frozen? ⟨w.heap.size + 1, 1, none⟩ = false := by
        intro w' hu
        have hne : ¬ some (w.heap.size + 1) = cv.ownBlock := fun e => by have := (owns_lt HX.out.1 _ e.symm).1; omega
        have hbk := hu.block _ hxlt hne
        refine ⟨(World.cell?_of_block hbk).trans c1, (World.frozen?_of_block hbk).trans ?_⟩
        simp [World.frozen?, hx]
      have HK := Lib.hid hkeep
      clear hkeep hx
      have hb2 : w.heap.size + 2 ≤ wr.heap.size + 1 := by omega
      have hs2 : intCells (chainP p n (k + 1)) = intCells (chainP p n k) ++ [.int .i64 (y : Int)] := by rw [hsucc]; simp [intCells]
      generalize hX : w.heap.size + 1 = X at *
      have HHX := Lib.hid (And.intro hX hs2)
      clear hX hs2 hsucc
      go_wp2
      have ca : ∀ o, (wr.alloc o).cell? ⟨X, 1, none⟩ = some cv := fun o => (HK.out _ (upd_alloc _ wr o)).1
      go_region_law
        (first
          | (refine step_append_lies _ (by rfl) _ _ _ (by rfl) (w.heap.size + 2) 3 i1 _ 1 8 und_Ints ki kz0 kz1 kz2 rfl (by omega) cv k (intCells (chainP p n k)) (by rfl) (HX.out.1.alloc _) ⟨wr.heap.size, 0, none⟩ 1 1 [.int .i64 (y : Int)] (by rfl) (by rfl) (World.news_of_block (cs := #[.int .i64 (y : Int)]) (t := 3) (fr := (0, 0)) (heap_alloc_new wr _)) (by simp [Value.oneCell']) (by omega) ?_ ?_ ?_ _ rfl ?_; (unfold maxLen; omega); omega; (first | (simp only [World.size_alloc, World.size_drew]; omega) | omega); rintro g9 gcap9 w9 hown9 hgrow9 - hlt9; obtain ⟨c9, f9⟩ := HK.out w9 (((upd_alloc _ wr _).trans (upd_drew _ _)).trans (upd_grown hgrow9))))
      all_goals
        have hu9 := ((upd_alloc (fun b => some b = cv.ownBlock) wr (.cells #[.int .i64 (y : Int)] 3)).trans (upd_drew _ _)).trans (upd_grown hgrow9)
        have HY := Lib.hid (And.intro hown9 hu9)
        clear hown9 hu9 hgrow9 c9 f9 ca c1
        go_wp2
        go_roundg (c - (k + 1))
        case measure => omega
        case rel =>
          have hX := HHX.out.1
          have hlo := owns_lt HY.out.1 g9 rfl
          have hne : ¬ some X = cv.ownBlock := fun e => by have := (owns_lt HX.out.1 _ e.symm).1; omega
          have hneN : ¬ some w.heap.size = cv.ownBlock := fun e => by have := (owns_lt HX.out.1 _ e.symm).1; omega
          have hx9 := (HY.out.2.block X hxlt hne).trans HX.out.2.1
          have h09 := (HY.out.2.block w.heap.size (by omega) hneN).trans HX.out.2.2.1
          have hset := upd_setCell (F := fun b => b = X) (Upd.refl _ w9) (b := X) (o := 1) rfl (.slice (some ⟨g9, 0, none⟩) (k + 1) gcap9)
          refine ⟨k + 1, .slice (some ⟨g9, 0, none⟩) (k + 1) gcap9, by omega, rfl, by go_num, ?_, ?_, ?_, ?_⟩
          · rw [HHX.out.2]
            exact owns_upd HY.out.1 hset (fun g hg e => by have := (owns_lt HY.out.1 g hg).1; omega)
          · exact setCell_same hx9
          · rw [hset.block w.heap.size (by have := HY.out.2.size; omega) (by omega)]
            exact h09
          · exact HX.out.2.2.2.trans ((HY.out.2.toBelow hsz (fun b e => by have := (owns_lt HX.out.1 b e.symm).1; omega)).trans (hset.toBelow (by have := HY.out.2.size; omega) (fun b e => by omega)))
    · have i1' : ¬ (k : Int) < (c : Int) := by omega
      have hkc : k = c := by omega
      subst hkc
      obtain ⟨ca, cc, rfl, -⟩ := (Sl.of_owns HX.out.1).shape
      have hx := HX.out.2.1
      have h0 := HX.out.2.2.1
      have d0 := cells_of hx 0 _ rfl
      have d1 := cells_of hx 1 _ rfl
      have d2 := cells_of hx 2 _ rfl
      have n0 := cells_of h0 0 _ rfl
      have n1 := cells_of h0 1 _ rfl
      have n2 := cells_of h0 2 _ rfl
      have f0 := frozen_of (j := 0) h0
      have f1 := frozen_of (j := 1) h0
      have f2 := frozen_of (j := 2) h0
      have HH := Lib.hid h0
      clear hx h0
      go_wp2
      have hf := setCell_same (o := 2) (v := .int .i64 0) (setCell_same (o := 1) (v := .slice ca k cc) (setCell_same (o := 0) (v := .int .i64 1) HH.out))
      have r0 := cells_of hf 0 _ rfl
      have r1 := cells_of hf 1 _ rfl
      have r2 := cells_of hf 2 _ rfl
      refine bodyPost_ret (v := .agg #[.int .i64 1, .slice ca k cc, .int .i64 0]) (by simp [results, Tryd.results35, go_sem, r0, r1, r2]) rfl ⟨_, rfl, ?_, ?_⟩
      · have hset3 := upd_set3 wr w.heap.size (.int .i64 1) (.slice ca k cc) (.int .i64 0)
        exact owns_mono (owns_upd HX.out.1 hset3 (fun g hg e => by have := (owns_lt HX.out.1 g hg).1; omega)) (by omega)
      · have hset3 := upd_set3 wr w.heap.size (.int .i64 1) (.slice ca k cc) (.int .i64 0)
        exact HX.out.2.2.2.trans (hset3.toBelow hsz (fun b e => by omega))
end Go.Proofs.YtjkobbmdemooaaaDoor
