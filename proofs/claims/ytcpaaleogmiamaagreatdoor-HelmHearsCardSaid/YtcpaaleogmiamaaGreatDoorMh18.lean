/- The walk of slices.Insert of one life. -/
import Derived.Test.YtcpaaleogmiamaaGreatDoorMh5
import Derived.Shelf.Spec.SlicesInsertGrow
import Derived.Laws.CopyRow
namespace Go.Proofs.YtcpaaleogmiamaaGreatDoor
open Go.RowKit

/-- copy, at elements of whatever size, into a row that is known whole. -/
theorem run_copy_sz {P : Program} (w : World) (dT sT ty elem : TypeId) (sz g o dLen dCap : Nat) (a : Addr) (sLen sCap n : Nat) (cur : Array Value) (t : TypeId) (cs : List Value)
    (hu : P.underlying dT = some (.slice elem)) (hs : (P.info? elem).map (·.size) = some sz)
    (hg : w.heap[g]? = some (.cells cur t (0, 0))) (hn : Nat.min sLen dLen = n) (hl : cs.length = n * sz)
    (hsrc : ∀ j v, cs[j]? = some v → w.cell? (a.add j) = some v) (hfit : o + cs.length ≤ cur.size) (h1 : ∀ v ∈ cs, v.oneCell' = true) :
    (Builtin.copy_ #[dT, sT] ty #[.slice (some ⟨g, o, none⟩) dLen dCap, .slice (some a) sLen sCap]).run P w =
      .ok (goInt n) (w.setRow g (cur.toList.take o ++ cs ++ cur.toList.drop (o + cs.length)).toArray) := by
  have hl' := run_loadCells_list (P := P) w a cs hsrc
  have hst := run_storeCells_at P g o t cs 0 cur w hg (by simpa using hfit) h1
  rw [hl] at hl'
  cases hq : P.info? elem with
  | none => simp [hq] at hs
  | some i =>
    have hi : i.size = sz := by simpa [hq] using hs
    simp [Builtin.copy_, run_underlying hu, Builtin.lenOf, Builtin.firstCells, sizeOf, typeInfo, hq, hi, hn, hl', hst]

theorem lifeCells_append (a b : List (Int × Int)) : lifeCells (a ++ b) = lifeCells a ++ lifeCells b := by simp [lifeCells]

theorem size_Life : (Tryz.prog.info? 134).map (·.size) = some 2 := by kernel_rfl

def Inserted (w : World) (N : Nat) (la : Option Addr) (n lc : Nat) (L : List (Int × Int)) (i : Nat) (x : Int × Int) (e : Ending) (w' : World) : Prop :=
  ∃ (la' : Option Addr) (lc' : Nat), e = .returned (.slice la' (n + 1) lc') ∧ w'.ownsRow N 134 2 (.slice la' (n + 1) lc') (n + 1) (lifeCells (L.take i ++ x :: L.drop i)) ∧ Upd (fun b => some b = (Value.slice la n lc).ownBlock) w w'

set_option maxRecDepth 100000 in
set_option maxHeartbeats 1000000 in
theorem Insert_end {w : World} {N vb : Nat} {la : Option Addr} {n lc : Nat} {L : List (Int × Int)} {nd lf : Int} (h : w.ownsRow N 134 2 (.slice la n lc) n (lifeCells L)) (hn : L.length = n) (hN : N ≤ w.heap.size) (hL : n ≤ 1000)
    (hv : w.heap[vb]? = some (.cells #[.int .i64 nd, .int .i64 lf] 134 (0, 0))) :
    Calls Tryz.prog 178 #[.slice la n lc, .int .i64 n, .slice (some ⟨vb, 0, none⟩) 1 1] w (Inserted w N la n lc L n (nd, lf)) := by
  obtain ⟨i1, ki, kz0, kz1, kz2⟩ := info_parts info_Life
  have hlc : n ≤ lc ∧ lc ≤ maxLen := by
    rcases h.2 with ⟨h1, h2⟩ | ⟨g, cap, cur, h1, _, _, h4, h5, _⟩
    · simp only [Value.slice.injEq] at h1; omega
    · simp only [Value.slice.injEq] at h1; omega
  have hlc2 : (lc : Int) ≤ 9223372036854775807 := by have : maxLen = 9223372036854775807 := rfl; omega
  have hnew := World.news_of_block hv
  have HO := Lib.hid h
  have HNW := Lib.hid hnew
  clear h hnew hv
  have hform : (la = none ∧ n = 0 ∧ lc = 0) ∨ ∃ g, la = some ⟨g, 0, none⟩ := by
    rcases HO.out.2 with ⟨h1, h2⟩ | ⟨g, cap, cur, h1, _⟩
    · simp only [Value.slice.injEq] at h1; exact .inl ⟨h1.1, h2, h1.2.2⟩
    · simp only [Value.slice.injEq] at h1; exact .inr ⟨g, h1.1⟩
  rcases hform with ⟨rfl, rfl, rfl⟩ | ⟨g, rfl⟩
  · go_enter Tryz.func178, Tryz.ntmps178
    go_wp2_with (at_builtin; refine wpList_append_lies _ rfl _ _ 37 rfl N 134 i1 _ 2 16 und_Lives ki kz0 kz1 kz2 rfl (by decide) (.slice none 0 0) 0 (lifeCells L) rfl HO.out ⟨vb, 0, none⟩ 1 1 [.int .i64 nd, .int .i64 lf] rfl rfl HNW.out (by simp [Value.oneCell']) (by decide) ?_ ?_ hN _ rfl ?_; (unfold maxLen; omega); omega; intro g7 cap7 w7 hown7 hgrow7 hat7 hlt7)
    go_ret
    exact ⟨some ⟨g7, 0, none⟩, cap7, rfl, by rw [← hn, List.take_length, List.drop_length]; simpa [lifeCells, hn] using hown7, upd_grown hgrow7⟩
  · go_enter Tryz.func178, Tryz.ntmps178
    go_wp2_with (at_builtin; refine wpList_append_lies _ rfl _ _ 37 rfl N 134 i1 _ 2 16 und_Lives ki kz0 kz1 kz2 rfl (by decide) (.slice (some ⟨g, 0, none⟩) n lc) n (lifeCells L) rfl HO.out ⟨vb, 0, none⟩ 1 1 [.int .i64 nd, .int .i64 lf] rfl rfl HNW.out (by simp [Value.oneCell']) (by decide) ?_ ?_ hN _ rfl ?_; (unfold maxLen; omega); omega; intro g7 cap7 w7 hown7 hgrow7 hat7 hlt7)
    all_goals
      go_ret
      exact ⟨some ⟨g7, 0, none⟩, cap7, rfl, by rw [← hn, List.take_length, List.drop_length]; simpa [lifeCells, hn] using hown7, upd_grown hgrow7⟩

theorem zero_Life : (Tryz.prog.info? 134).bind (·.zero) = some (.agg #[.int .i64 0, .int .i64 0]) := by kernel_rfl

theorem sizeOf_Life (w : World) : (Go.sizeOf 134).run Tryz.prog w = .ok 2 w := Tryz.sizeOf134 w

set_option maxRecDepth 100000 in
set_option maxHeartbeats 4000000 in
theorem Insert_grow {w : World} {N vb g : Nat} {n lc i : Nat} {L : List (Int × Int)} {nd lf : Int} (h : w.ownsRow N 134 2 (.slice (some ⟨g, 0, none⟩) n lc) n (lifeCells L)) (hn : L.length = n) (hN : N ≤ w.heap.size) (hL : n ≤ 1000)
    (hv : w.heap[vb]? = some (.cells #[.int .i64 nd, .int .i64 lf] 134 (0, 0))) (hi : i < n) (hroom : lc < n + 1) :
    Calls Tryz.prog 178 #[.slice (some ⟨g, 0, none⟩) n lc, .int .i64 i, .slice (some ⟨vb, 0, none⟩) 1 1] w (Inserted w N (some ⟨g, 0, none⟩) n lc L i (nd, lf)) := by
  obtain ⟨i1, ki, kz0, kz1, kz2⟩ := info_parts info_Life
  rcases h.2 with ⟨h1, h2⟩ | ⟨g', cap, cur, h1, hgN, hb, hnc, hcm, hcs, htk⟩
  · omega
  simp only [Value.slice.injEq, Option.some.injEq, Addr.mk.injEq, and_true, true_and] at h1
  obtain ⟨rfl, rfl⟩ := h1
  have hlc : lc = n := by omega
  subst hlc
  have hlc2 : (lc : Int) ≤ 1000 := by omega
  have hglt := (Array.getElem?_eq_some_iff.1 hb).1
  have hvlt := (Array.getElem?_eq_some_iff.1 hv).1
  have i1' : (i : Int) < (lc : Int) := by omega
  have i2 : (0 : Int) ≤ (i : Int) := by omega
  have i3 : ¬ ((i : Int) = (lc : Int)) := by omega
  have hk : (lc : Int) + 1 - (i : Int) = ((lc + 1 - i : Nat) : Int) := by omega
  have hlL : (lifeCells L).length = lc * 2 := by rw [lifeCells_length, hn]
  have hcell : ∀ j v, (lifeCells L)[j]? = some v → w.cell? ⟨g, j, none⟩ = some v := by
    intro j v hj
    have hlt : j < lc * 2 := by have := (List.getElem?_eq_some_iff.1 hj).1; omega
    rw [h.cellAt j hlt]; exact hj
  obtain ⟨C, hC⟩ : ∃ C, grownCap w (i + (lc + 1 - i)) lc 134 = C := ⟨_, rfl⟩
  have hC1 : lc + 1 ≤ C := by rw [← hC]; have := grownCap_ge w (i + (lc + 1 - i)) lc 134; omega
  have hC2 : C ≤ maxLen := by rw [← hC]; exact grownCap_le_maxLen _ _ _ _ (by unfold maxLen; omega)
  have holds : (Builtin.firstCells i1.size i (.slice (some ⟨g, 0, none⟩) i lc)).run Tryz.prog w.drew = .ok ((lifeCells L).take (i * 2)).toArray w.drew := by
    rw [kz1]
    refine run_firstCells_some w.drew 2 i ⟨g, 0, none⟩ i lc ((lifeCells L).take (i * 2)) (by rw [List.length_take]; omega) (fun j v hj => ?_)
    rw [Addr.add_lit, Nat.zero_add]
    rw [List.getElem?_take] at hj
    split at hj
    · exact hcell j v hj
    · cases hj
  have hz := fun ty => Lib.run_append_grow_zeros (P := Tryz.prog) w 37 3 ty 134 i1 (.agg #[.int .i64 0, .int .i64 0]) .i64 .i64 und_Lives und_int ki kz0 (some ⟨g, 0, none⟩) i lc _ holds (lc + 1 - i) (by omega) (by omega) (by omega) (by omega) (by rw [kz2]; omega)
    (by rw [kz2]; exact growslice_fits (by omega) (by omega))
  rw [hC] at hz
  obtain ⟨cur1, hcur1⟩ : ∃ c, c = ((lifeCells L).take (i * 2)).toArray ++ Builtin.zeroCells (Value.agg #[.int .i64 0, .int .i64 0]).cells (lc + 1 - i) ++ Builtin.zeroCells (Value.agg #[.int .i64 0, .int .i64 0]).cells (C - (i + (lc + 1 - i))) := ⟨_, rfl⟩
  rw [← hcur1] at hz
  have hsz1 : cur1.size = C * 2 := by
    rw [hcur1]
    simp only [Array.size_append, List.size_toArray, List.length_take, size_zeroCells]
    have e : (Value.agg #[.int .i64 0, .int .i64 0]).cells.size = 2 := rfl
    rw [e]
    omega
  have htk1 : cur1.toList.take (i * 2) = (lifeCells L).take (i * 2) := by
    rw [hcur1]
    simp only [Array.toList_append, List.append_assoc]
    rw [List.take_append_of_le_length (by simp; omega)]
    exact List.take_of_length_le (by simp; omega)
  have HO := Lib.hid (And.intro h (And.intro hb hv))
  clear h hb hv

  have hg0 := fun j (hj : j < lc * 2) => hcell j
  obtain ⟨W, hW⟩ : ∃ W, W = w.drew.alloc (.cells cur1 134) := ⟨_, rfl⟩
  rw [← hW] at hz
  have hWG : W.heap[w.heap.size]? = some (.cells cur1 134 (0, 0)) := by rw [hW]; exact heap_alloc_new _ _
  have hWb : Below w.heap.size w W := by rw [hW]; exact (Below.refl _ w).drew.alloc (Nat.le_refl _) _
  have hWs : W.heap.size = w.heap.size + 1 := by rw [hW]; simp
  clear hW
  have hvW : ∀ j v, ([Value.int .i64 nd, .int .i64 lf] : List Value)[j]? = some v → W.cell? ((⟨vb, 0, none⟩ : Addr).add j) = some v :=
    World.news_of_block (cs := #[.int .i64 nd, .int .i64 lf]) ((hWb.block vb hvlt).trans HO.out.2.2)
  have hc1 := fun ty => run_copy_sz (P := Tryz.prog) W 37 37 ty 134 2 w.heap.size (i * 2) (lc + 1 - i) (C - i) ⟨vb, 0, none⟩ 1 1 1 cur1 134 [.int .i64 nd, .int .i64 lf] und_Lives size_Life hWG (by simp only [Nat.min_def]; split <;> omega) rfl hvW (by simp; omega) (by simp [Value.oneCell'])
  obtain ⟨cur2, hcur2⟩ : ∃ c, c = (cur1.toList.take (i * 2) ++ [Value.int .i64 nd, Value.int .i64 lf] ++ cur1.toList.drop (i * 2 + [Value.int .i64 nd, Value.int .i64 lf].length)).toArray := ⟨_, rfl⟩
  rw [← hcur2] at hc1
  obtain ⟨W2, hW2⟩ : ∃ W2, W2 = W.setRow w.heap.size cur2 := ⟨_, rfl⟩
  rw [← hW2] at hc1
  have hWG2 : W2.heap[w.heap.size]? = some (.cells cur2 134 (0, 0)) := by rw [hW2]; exact setRow_heap _ _ _ _ _ _ hWG
  have hWb2 : Below w.heap.size w W2 := hWb.trans (by rw [hW2]; exact ⟨rfl, rfl, rfl, by simp, fun k hk => setRow_other _ _ _ _ (by omega)⟩)
  have hW2s : W2.heap.size = w.heap.size + 1 := by rw [hW2]; simp [hWs]
  have hl2 : ((lifeCells L).drop (i * 2)).length = (lc - i) * 2 := by rw [List.length_drop, hlL]; omega
  have hsz2 : cur2.size = C * 2 := by rw [hcur2]; simp; omega
  have hc2 := fun ty => run_copy_sz (P := Tryz.prog) W2.drew 37 37 ty 134 2 w.heap.size ((i + 1) * 2) (lc - i) (C - (i + 1)) ⟨g, i * 2, none⟩ (lc - i) (lc - i) (lc - i) cur2 134 ((lifeCells L).drop (i * 2)) und_Lives size_Life hWG2 (by simp only [Nat.min_def]; split <;> omega) hl2
    (fun j v hj => by
      rw [Addr.add_lit]
      rw [List.getElem?_drop] at hj
      exact below_some hWb2.drew (hcell _ v hj) hglt) (by rw [hl2, hsz2]; omega) (fun v hv => oneLives L v (List.mem_of_mem_drop hv))
  obtain ⟨cur3, hcur3⟩ : ∃ c, c = (cur2.toList.take ((i + 1) * 2) ++ (lifeCells L).drop (i * 2) ++ cur2.toList.drop ((i + 1) * 2 + ((lifeCells L).drop (i * 2)).length)).toArray := ⟨_, rfl⟩
  rw [← hcur3] at hc2
  obtain ⟨W3, hW3⟩ : ∃ W3, W3 = W2.drew.setRow w.heap.size cur3 := ⟨_, rfl⟩
  rw [← hW3] at hc2
  have hWG3 : W3.heap[w.heap.size]? = some (.cells cur3 134 (0, 0)) := by rw [hW3]; exact setRow_heap _ _ _ _ _ _ hWG2
  have hWb3 : Below w.heap.size w W3 := hWb2.drew.trans (by rw [hW3]; exact ⟨rfl, rfl, rfl, by simp, fun k hk => setRow_other _ _ _ _ (by omega)⟩)
  have hfin : W3.ownsRow N 134 2 (.slice (some ⟨w.heap.size, 0, none⟩) (lc + 1) C) (lc + 1) (lifeCells (L.take i ++ (nd, lf) :: L.drop i)) := by
    have e1 : (lifeCells L).take (i * 2) = lifeCells (L.take i) := by
      have h2 : lifeCells L = lifeCells (L.take i) ++ lifeCells (L.drop i) := by rw [← lifeCells_append, List.take_append_drop]
      rw [h2, List.take_append_of_le_length (by rw [lifeCells_length]; simp; omega)]
      exact List.take_of_length_le (by rw [lifeCells_length]; simp; omega)
    have e2 : (lifeCells L).drop (i * 2) = lifeCells (L.drop i) := by
      have h2 : lifeCells L = lifeCells (L.take i) ++ lifeCells (L.drop i) := by rw [← lifeCells_append, List.take_append_drop]
      have hl : (lifeCells (L.take i)).length = i * 2 := by rw [lifeCells_length]; simp; omega
      rw [h2, ← hl, List.drop_left]
    have e3 : lifeCells (L.take i ++ (nd, lf) :: L.drop i) = lifeCells (L.take i) ++ [.int .i64 nd, .int .i64 lf] ++ lifeCells (L.drop i) := by simp [lifeCells]
    have hlt : (lifeCells (L.take i)).length = i * 2 := by rw [lifeCells_length]; simp; omega
    have hld : (lifeCells (L.drop i)).length = (lc - i) * 2 := by rw [lifeCells_length]; simp; omega
    have t2 : cur2.toList.take ((i + 1) * 2) = lifeCells (L.take i) ++ [.int .i64 nd, .int .i64 lf] := by
      rw [hcur2, htk1, e1]
      show List.take ((i + 1) * 2) (lifeCells (L.take i) ++ [Value.int .i64 nd, Value.int .i64 lf] ++ _) = _
      rw [List.take_append_of_le_length (by rw [List.length_append, hlt]; simp; omega)]
      exact List.take_of_length_le (by rw [List.length_append, hlt]; simp; omega)
    have t3 : cur3.toList.take ((lc + 1) * 2) = lifeCells (L.take i ++ (nd, lf) :: L.drop i) := by
      rw [hcur3, t2, e2, e3]
      show List.take ((lc + 1) * 2) (lifeCells (L.take i) ++ [Value.int .i64 nd, Value.int .i64 lf] ++ lifeCells (L.drop i) ++ _) = _
      rw [List.take_append_of_le_length (by rw [List.length_append, List.length_append, hlt, hld]; simp; omega)]
      exact List.take_of_length_le (by rw [List.length_append, List.length_append, hlt, hld]; simp; omega)
    refine ⟨by rw [e3, List.length_append, List.length_append, hlt, hld]; simp; omega, .inr ⟨w.heap.size, C, cur3, rfl, hN, hWG3, hC1, hC2, ?_, t3⟩⟩
    rw [hcur3]
    simp [hl2, hsz2]
    omega
  have HW := Lib.hid (And.intro hfin hWb3)
  clear hW3 hWG3 hWb3 hcur3 hl2 hW2 hWG2 hWb2 hcur2 hWG hWb hvW hW2s hWs hfin hsz2 hsz1 htk1 hcur1 holds hcell
  have w1 : IntKind.i64.wrap ((i : Int) + 1) = (i : Int) + 1 := IntWalk.i64_in _ (by omega)
  have w2 : ((i : Int) + 1).toNat = i + 1 := by omega
  have w3 : (0 : Int) ≤ (i : Int) + 1 := by omega
  have w4 : i + (lc + 1 - i) = lc + 1 := by omega
  have w5 : i ≤ lc := by omega
  have w6 : ¬ (C = i + 1) := by omega
  have w7 : ¬ (lc = i) := by omega
  go_enter Tryz.func178, Tryz.ntmps178
  go_wp2_with (first
    | (at_builtin; refine Lib.wpList_append_run _ rfl _ _ _ _ rfl _ _ rfl rfl _ _ (hz _) ?_))
  go_region_law (refine step_copy_runI rfl _ _ 37 37 rfl (.slice (some ⟨w.heap.size, (i + 1) * 2, none⟩) (lc - i) (C - (i + 1))) (.slice (some ⟨g, i * 2, none⟩) (lc - i) (lc - i)) (by simp [Act.eval, Act.put]) (by simp [Act.eval, Act.put]) (hc2 _) ?_)
  all_goals
    go_wp2
    go_ret
    exact ⟨some ⟨w.heap.size, 0, none⟩, C, rfl, HW.out.1, Upd.of_below HW.out.2⟩

set_option maxRecDepth 100000 in
set_option maxHeartbeats 4000000 in
theorem Insert_shift {w : World} {N vb g : Nat} {n lc i : Nat} {L : List (Int × Int)} {nd lf : Int} (h : w.ownsRow N 134 2 (.slice (some ⟨g, 0, none⟩) n lc) n (lifeCells L)) (hn : L.length = n) (_hN : N ≤ w.heap.size) (hL : n ≤ 1000)
    (hv : w.heap[vb]? = some (.cells #[.int .i64 nd, .int .i64 lf] 134 (0, 0))) (hvg : vb ≠ g) (hi : i < n) (hroom : n + 1 ≤ lc) :
    Calls Tryz.prog 178 #[.slice (some ⟨g, 0, none⟩) n lc, .int .i64 i, .slice (some ⟨vb, 0, none⟩) 1 1] w (Inserted w N (some ⟨g, 0, none⟩) n lc L i (nd, lf)) := by
  rcases h.2 with ⟨h1, h2⟩ | ⟨g', cap, cur, h1, hgN, hb, hnc, hcm, hcs, htk⟩
  · omega
  simp only [Value.slice.injEq, Option.some.injEq, Addr.mk.injEq, and_true, true_and] at h1
  obtain ⟨rfl, rfl⟩ := h1
  have hlc2 : (lc : Int) ≤ 9223372036854775807 := by have : maxLen = 9223372036854775807 := rfl; omega
  have hglt := (Array.getElem?_eq_some_iff.1 hb).1
  have hvlt := (Array.getElem?_eq_some_iff.1 hv).1
  have hlL : (lifeCells L).length = n * 2 := by rw [lifeCells_length, hn]
  have hcell : ∀ j v, (lifeCells L)[j]? = some v → w.cell? ⟨g, j, none⟩ = some v := by
    intro j v hj
    have hlt : j < n * 2 := by have := (List.getElem?_eq_some_iff.1 hj).1; omega
    rw [h.cellAt j hlt]; exact hj
  have hov : ∀ lb cb, (callFunc 213 #[.slice (some ⟨vb, 0, none⟩) 1 1, .slice (some ⟨g, (i + 1) * 2, none⟩) lb cb]).run Tryz.prog w = .ok (.value (.bool false)) w := fun lb cb => by
    rw [run_callFunc_extern Tryz.func213 (by kernel_rfl) (by kernel_rfl) (by kernel_rfl) (e := Extern.SlicesOverlaps.overlaps #[37, 37] #[4]) (by kernel_rfl),
      Lib.run_overlaps_apart w 37 4 134 und_Lives 2 sizeOf_Life ⟨vb, 0, none⟩ ⟨g, (i + 1) * 2, none⟩ 1 1 lb cb hvg 134 134 2 (lc * 2) (by simp [World.shape?, hv]) (by simp [World.shape?, hb, hcs]) (by omega) (frozen_of hv) (frozen_of hv)]
    rfl
  have hl2 : ((lifeCells L).drop (i * 2)).length = (n - i) * 2 := by rw [List.length_drop, hlL]; omega
  have hc1 := fun ty => run_copy_sz (P := Tryz.prog) w.drew 37 37 ty 134 2 g ((i + 1) * 2) (n - i) (lc - (i + 1)) ⟨g, i * 2, none⟩ (n + 1 - i) (lc - i) (n - i) cur 134 ((lifeCells L).drop (i * 2)) und_Lives size_Life hb (by simp only [Nat.min_def]; split <;> omega) hl2
    (fun j v hj => by
      rw [Addr.add_lit]
      rw [List.getElem?_drop] at hj
      exact hcell _ v hj) (by rw [hl2, hcs]; omega) (fun v hv => oneLives L v (List.mem_of_mem_drop hv))
  obtain ⟨cur1, hcur1⟩ : ∃ c, c = (cur.toList.take ((i + 1) * 2) ++ (lifeCells L).drop (i * 2) ++ cur.toList.drop ((i + 1) * 2 + ((lifeCells L).drop (i * 2)).length)).toArray := ⟨_, rfl⟩
  rw [← hcur1] at hc1
  obtain ⟨W, hW⟩ : ∃ W, W = w.drew.setRow g cur1 := ⟨_, rfl⟩
  rw [← hW] at hc1
  have hWG : W.heap[g]? = some (.cells cur1 134 (0, 0)) := by rw [hW]; exact setRow_heap _ _ _ _ _ _ hb
  have hWu : Upd (fun b => b = g) w W := by rw [hW]; exact ⟨rfl, rfl, rfl, by simp, fun k hk hne => setRow_other _ _ _ _ hne⟩
  have hvW : ∀ j v, ([Value.int .i64 nd, Value.int .i64 lf] : List Value)[j]? = some v → W.cell? ((⟨vb, 0, none⟩ : Addr).add j) = some v :=
    World.news_of_block (cs := #[Value.int .i64 nd, Value.int .i64 lf]) ((hWu.block vb hvlt hvg).trans hv)
  have hsz1 : cur1.size = lc * 2 := by rw [hcur1]; simp [hl2, hcs]; omega
  have hc2 := fun ty => run_copy_sz (P := Tryz.prog) W 37 37 ty 134 2 g (i * 2) (n + 1 - i) (lc - i) ⟨vb, 0, none⟩ 1 1 1 cur1 134 [Value.int .i64 nd, Value.int .i64 lf] und_Lives size_Life hWG (by simp only [Nat.min_def]; split <;> omega) rfl hvW (by simp; omega) (by simp [Value.oneCell'])
  obtain ⟨cur2, hcur2⟩ : ∃ c, c = (cur1.toList.take (i * 2) ++ [Value.int .i64 nd, Value.int .i64 lf] ++ cur1.toList.drop (i * 2 + [Value.int .i64 nd, Value.int .i64 lf].length)).toArray := ⟨_, rfl⟩
  rw [← hcur2] at hc2
  obtain ⟨W2, hW2⟩ : ∃ W2, W2 = W.setRow g cur2 := ⟨_, rfl⟩
  rw [← hW2] at hc2
  have hWG2 : W2.heap[g]? = some (.cells cur2 134 (0, 0)) := by rw [hW2]; exact setRow_heap _ _ _ _ _ _ hWG
  have hWu2 : Upd (fun b => b = g) w W2 := hWu.trans (by rw [hW2]; exact ⟨rfl, rfl, rfl, by simp, fun k hk hne => setRow_other _ _ _ _ hne⟩)
  have hfin : W2.ownsRow N 134 2 (.slice (some ⟨g, 0, none⟩) (n + 1) lc) (n + 1) (lifeCells (L.take i ++ (nd, lf) :: L.drop i)) := by
    have h2 : lifeCells L = lifeCells (L.take i) ++ lifeCells (L.drop i) := by rw [← lifeCells_append, List.take_append_drop]
    have hlt : (lifeCells (L.take i)).length = i * 2 := by rw [lifeCells_length]; simp; omega
    have hld : (lifeCells (L.drop i)).length = (n - i) * 2 := by rw [lifeCells_length]; simp; omega
    have e1 : cur.toList.take (i * 2) = lifeCells (L.take i) := by
      have : cur.toList.take (i * 2) = (cur.toList.take (n * 2)).take (i * 2) := by rw [List.take_take, Nat.min_eq_left (by omega)]
      rw [this, htk, h2, List.take_append_of_le_length (by omega)]
      exact List.take_of_length_le (by omega)
    have e2 : (lifeCells L).drop (i * 2) = lifeCells (L.drop i) := by rw [h2, ← hlt, List.drop_left]
    have e3 : lifeCells (L.take i ++ (nd, lf) :: L.drop i) = lifeCells (L.take i) ++ [Value.int .i64 nd, Value.int .i64 lf] ++ lifeCells (L.drop i) := by simp [lifeCells]
    have hcl : (cur.toList.take ((i + 1) * 2)).length = (i + 1) * 2 := by rw [List.length_take]; simp [hcs]; omega
    have t1 : cur1.toList.take (i * 2) = lifeCells (L.take i) := by
      rw [hcur1]
      show List.take (i * 2) (cur.toList.take ((i + 1) * 2) ++ List.drop (i * 2) (lifeCells L) ++ _) = _
      rw [List.append_assoc, List.take_append_of_le_length (by rw [hcl]; omega), List.take_take, Nat.min_eq_left (by omega)]
      exact e1
    have t1d : (cur1.toList.drop ((i + 1) * 2)).take ((n - i) * 2) = lifeCells (L.drop i) := by
      rw [hcur1, e2]
      show ((List.take ((i + 1) * 2) cur.toList ++ lifeCells (L.drop i) ++ _).drop ((i + 1) * 2)).take ((n - i) * 2) = _
      rw [List.append_assoc]
      conv => lhs; arg 2; arg 1; rw [← hcl]
      rw [List.drop_left, List.take_append_of_le_length (by omega)]
      exact List.take_of_length_le (by omega)
    have t2 : cur2.toList.take ((n + 1) * 2) = lifeCells (L.take i ++ (nd, lf) :: L.drop i) := by
      rw [hcur2, t1, e3]
      show List.take ((n + 1) * 2) (lifeCells (L.take i) ++ [Value.int .i64 nd, Value.int .i64 lf] ++ cur1.toList.drop (i * 2 + 2)) = _
      rw [List.take_append]
      have e5 : (lifeCells (L.take i) ++ [Value.int .i64 nd, Value.int .i64 lf]).length = (i + 1) * 2 := by rw [List.length_append, hlt]; simp; omega
      have e6 : (n + 1) * 2 - (lifeCells (L.take i) ++ [Value.int .i64 nd, Value.int .i64 lf]).length = (n - i) * 2 := by rw [e5]; omega
      have e7 : i * 2 + 2 = (i + 1) * 2 := by omega
      rw [e6, e7, t1d, List.take_of_length_le (by rw [e5]; omega)]
    refine ⟨by rw [e3, List.length_append, List.length_append, hlt, hld]; simp; omega, .inr ⟨g, lc, cur2, rfl, hgN, hWG2, hroom, hcm, ?_, t2⟩⟩
    rw [hcur2]
    simp [hsz1]
    omega
  have HW := Lib.hid (And.intro hfin hWu2)
  have hi' : (i : Int) < (n : Int) := by omega
  have i2 : (0 : Int) ≤ (i : Int) := by omega
  have i3 : ¬ ((i : Int) = (n : Int)) := by omega
  have i4 : (n : Int) + 1 ≤ (lc : Int) := by omega
  have w0 : IntKind.i64.wrap ((n : Int) + 1) = (n : Int) + 1 := IntWalk.i64_in _ (by omega)
  have w1 : IntKind.i64.wrap ((i : Int) + 1) = (i : Int) + 1 := IntWalk.i64_in _ (by omega)
  have w2 : ((i : Int) + 1).toNat = i + 1 := by omega
  have w3 : (0 : Int) ≤ (i : Int) + 1 := by omega
  have w5 : i ≤ n := by omega
  have w6 : ¬ (lc = i + 1) := by omega
  have w7 : ¬ (lc = i) := by omega
  have w8 : i ≤ n + 1 := by omega
  have w9 : (i : Int) ≤ (n : Int) + 1 := by omega
  clear h hb hv htk hcell hW hWG hWu hW2 hWG2 hWu2 hfin hcur1 hcur2 hvW hl2
  go_enter Tryz.func178, Tryz.ntmps178
  go_wp2_with (simp only [hov])
  go_region_law (refine step_copy_runI rfl _ _ 37 37 rfl (.slice (some ⟨g, (i + 1) * 2, none⟩) (n - i) (lc - (i + 1))) (.slice (some ⟨g, i * 2, none⟩) (n + 1 - i) (lc - i)) (by simp [Act.eval, Act.put]) (by simp [Act.eval, Act.put]) (hc1 _) ?_)
  all_goals
    go_wp2
    go_ret
    exact ⟨some ⟨g, 0, none⟩, lc, rfl, HW.out.1, HW.out.2.mono (fun b _ e => by rw [e]; rfl)⟩

/-- slices.Insert of one life, in a row that the call owns. -/
theorem Insert_any {w : World} {N vb : Nat} {la : Option Addr} {n lc i : Nat} {L : List (Int × Int)} {nd lf : Int} (h : w.ownsRow N 134 2 (.slice la n lc) n (lifeCells L)) (hn : L.length = n) (hN : N ≤ w.heap.size) (hL : n ≤ 1000)
    (hv : w.heap[vb]? = some (.cells #[.int .i64 nd, .int .i64 lf] 134 (0, 0))) (hvg : ∀ g, (Value.slice la n lc).ownBlock = some g → vb ≠ g) (hi : i ≤ n) :
    Calls Tryz.prog 178 #[.slice la n lc, .int .i64 i, .slice (some ⟨vb, 0, none⟩) 1 1] w (Inserted w N la n lc L i (nd, lf)) := by
  by_cases he : i = n
  · subst he
    exact Insert_end h hn hN hL hv
  · have hform : ∃ g, la = some ⟨g, 0, none⟩ := by
      rcases h.2 with ⟨h1, h2⟩ | ⟨g, cap, cur, h1, _⟩
      · omega
      · simp only [Value.slice.injEq] at h1; exact ⟨g, h1.1⟩
    obtain ⟨g, rfl⟩ := hform
    by_cases hr : lc < n + 1
    · exact Insert_grow h hn hN hL hv (by omega) hr
    · exact Insert_shift h hn hN hL hv (hvg g rfl) (by omega) (by omega)
end Go.Proofs.YtcpaaleogmiamaaGreatDoor
