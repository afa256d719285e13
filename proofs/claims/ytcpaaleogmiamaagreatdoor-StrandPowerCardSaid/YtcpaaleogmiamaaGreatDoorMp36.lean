/- Many cells of a block written one after another. -/
/- slices.Delete of one segment: what clear does to one struct. -/
/- The walk of slices.Delete of one segment. -/
/- A strand that loses a segment. -/
import Derived.Test.YtcpaaleogmiamaaGreatDoorMp5
import Derived.Deep.MidRow
import Derived.Test.YtcpaaleogmiamaaGreatDoorMp22
import Derived.Deep.RegionLaw
namespace Go.Proofs.YtcpaaleogmiamaaGreatDoor
open Go.RowKit

theorem setCells_upd (b : Nat) : ∀ (l : List Value) (w : World) (o : Nat), Upd (fun k => k = b) w (w.setCells b o l)
  | [], w, _ => Upd.refl _ w
  | v :: l, w, o => (upd_set1 w b o v).trans (setCells_upd b l _ _)

theorem setCells_blk (b : Nat) {T : TypeId} : ∀ (l : List Value) (w : World) (pre xs : List Value), xs.length = l.length → w.heap[b]? = some (.cells (pre ++ xs).toArray T (0, 0)) →
    (w.setCells b pre.length l).heap[b]? = some (.cells (pre ++ l).toArray T (0, 0))
  | [], w, pre, xs, hl, h => by
    have : xs = [] := List.eq_nil_of_length_eq_zero hl
    subst this
    exact h
  | v :: l, w, pre, xs, hl, h => by
    match xs, hl with
    | x :: xs, hl =>
      have h1 : (w.setCell ⟨b, pre.length, none⟩ v).heap[b]? = some (.cells (pre ++ v :: xs).toArray T (0, 0)) := by
        have := setCell_same (o := pre.length) (v := v) h
        rw [this]
        congr 2
        apply Array.ext'
        simp []
      have h2 := setCells_blk b l (w.setCell ⟨b, pre.length, none⟩ v) (pre ++ [v]) xs (by simpa using hl) (by simpa using h1)
      simpa [World.setCells] using h2
/-- A whole block is written. -/
theorem setCells_whole {w : World} {b : Nat} {T : TypeId} {xs : Array Value} (l : List Value) (h : w.heap[b]? = some (.cells xs T (0, 0))) (hl : xs.size = l.length) :
    (w.setCells b 0 l).heap[b]? = some (.cells l.toArray T (0, 0)) ∧ Upd (fun k => k = b) w (w.setCells b 0 l) :=
  ⟨by simpa using setCells_blk b l w [] xs.toList (by simpa using hl) (by simpa using h), setCells_upd b l w 0⟩
theorem there_of_blk {w : World} {b n : Nat} {T : TypeId} {xs : Array Value} (h : w.heap[b]? = some (.cells xs T (0, 0))) (hn : n ≤ xs.size) : w.there b 0 n := by
  intro j hj
  rw [Nat.zero_add]
  refine ⟨?_, frozen_of h⟩
  rw [cell_of_row w b j _ _ _ h, Array.getElem?_eq_getElem (show j < xs.size by omega)]
  rfl
theorem range_of_blk {w : World} {b : Nat} {T : TypeId} {l : List Value} (h : w.heap[b]? = some (.cells l.toArray T (0, 0))) : w.rangeAt b 0 l := by
  intro j v hv
  rw [Nat.zero_add]
  exact cells_of h j v (by simpa using hv)
end Go.Proofs.YtcpaaleogmiamaaGreatDoor
namespace Go.Proofs.YtcpaaleogmiamaaGreatDoor
open Go.RowKit

/-- clear(s), s a slice of one element of several cells. -/
theorem run_clear_one {P : Program} (w : World) (t e ty : TypeId) (z : Value) (zs : List Value) (ht : P.underlying t = some (.slice e)) (hv : ∀ w, (zeroValue e).run P w = .ok z w) (hz : (Builtin.zeroCells z.cells 1).toList = zs) (h1 : ∀ v ∈ zs, v.oneCell' = true) (b o c : Nat)
    (hc : ∀ j, j < zs.length → (w.cell? ⟨b, o + j, none⟩).isSome = true) (hf : ∀ j, j < zs.length → w.frozen? ⟨b, o + j, none⟩ = false) :
    (Builtin.clear_ #[t] ty #[.slice (some ⟨b, o, none⟩) 1 c]).run P w = .ok (.tuple #[]) (w.setCells b o zs) := by
  have hst := run_storeCells_cells (P := P) b o zs 0 w (by simpa using hc) (by simpa using hf) h1
  simp only [Nat.add_zero] at hst
  simp [Builtin.clear_, run_underlying ht, hv, hz, hst]
theorem zero_seg : ∀ w, (zeroValue 158).run Tryz.prog w = .ok (.agg #[.int .i64 0, .slice none 0 0, .int .i64 0]) w := fun w => by kernel_rfl
theorem zero_segCells : (Builtin.zeroCells (Value.agg #[.int .i64 0, .slice none 0 0, .int .i64 0]).cells 1).toList = [.int .i64 0, .slice none 0 0, .int .i64 0] := by kernel_rfl

/-- Cells in the midst of a block are written. -/
theorem setCells_mid (b : Nat) {T : TypeId} : ∀ (l : List Value) (w : World) (pre xs post : List Value), xs.length = l.length → w.heap[b]? = some (.cells (pre ++ (xs ++ post)).toArray T (0, 0)) →
    (w.setCells b pre.length l).heap[b]? = some (.cells (pre ++ (l ++ post)).toArray T (0, 0))
  | [], w, pre, xs, post, hl, h => by
    have : xs = [] := List.eq_nil_of_length_eq_zero hl
    subst this
    exact h
  | v :: l, w, pre, xs, post, hl, h => by
    match xs, hl with
    | x :: xs, hl =>
      have h1 : (w.setCell ⟨b, pre.length, none⟩ v).heap[b]? = some (.cells (pre ++ v :: (xs ++ post)).toArray T (0, 0)) := by
        have := setCell_same (o := pre.length) (v := v) h
        rw [this]
        congr 2
        apply Array.ext'
        simp []
      have h2 := setCells_mid b l (w.setCell ⟨b, pre.length, none⟩ v) (pre ++ [v]) xs post (by simpa using hl) (by simpa using h1)
      simpa [World.setCells] using h2
/-- A row that the call owns loses the cells from p to q: those behind are moved to the left; what stood at the end is z. -/
theorem owns_del {w : World} {N e sz g cap n i : Nat} {xs z : List Value} (h : w.ownsRow N e sz (.slice (some ⟨g, 0, none⟩) n cap) n xs) (hi : i < n) (hz : z.length = sz) :
    ((w.setCells g (i * sz) (xs.drop ((i + 1) * sz))).setCells g ((n - 1) * sz) z).ownsRow N e sz (.slice (some ⟨g, 0, none⟩) (n - 1) cap) (n - 1) (xs.take (i * sz) ++ xs.drop ((i + 1) * sz)) ∧
    Upd (fun k => k = g) w ((w.setCells g (i * sz) (xs.drop ((i + 1) * sz))).setCells g ((n - 1) * sz) z) := by
  refine ⟨?_, (setCells_upd g _ w _).trans (setCells_upd g _ _ _)⟩
  have hxl := h.1
  have hmul : (i + 1) * sz = i * sz + sz := Nat.succ_mul i sz
  have hle : (i + 1) * sz ≤ n * sz := Nat.mul_le_mul_right sz hi
  have hn1 : (n - 1) * sz + sz = n * sz := by rw [← Nat.succ_mul]; congr 1; omega
  rcases h.2 with ⟨h0, -⟩ | ⟨g', cap', cur, h0, h1, h2, h3, h4, h5, h6⟩
  · cases h0
  simp only [Value.slice.injEq, Option.some.injEq, Addr.mk.injEq, and_true, true_and] at h0
  obtain ⟨rfl, rfl⟩ := h0
  have hcur : cur = (xs ++ cur.toList.drop (n * sz)).toArray := by
    have e := List.take_append_drop (n * sz) cur.toList
    have h7 : cur.toList.take (n * sz) = xs := h6
    rw [h7] at e
    rw [e]
  obtain ⟨rest, hrest⟩ : ∃ r, cur.toList.drop (n * sz) = r := ⟨_, rfl⟩
  rw [hrest] at hcur
  obtain ⟨A, hA⟩ : ∃ A, xs.take (i * sz) = A := ⟨_, rfl⟩
  obtain ⟨l, hl⟩ : ∃ l, xs.drop ((i + 1) * sz) = l := ⟨_, rfl⟩
  have hAl : A.length = i * sz := by rw [← hA, List.length_take]; omega
  have hll : l.length + sz + i * sz = n * sz := by rw [← hl, List.length_drop]; omega
  obtain ⟨M1, M2, hM, hM1, hM2⟩ : ∃ M1 M2, xs.drop (i * sz) = M1 ++ M2 ∧ M1.length = l.length ∧ M2.length = sz := by
    refine ⟨(xs.drop (i * sz)).take l.length, (xs.drop (i * sz)).drop l.length, (List.take_append_drop _ _).symm, ?_, ?_⟩
    · rw [List.length_take, List.length_drop]; omega
    · rw [List.length_drop, List.length_drop]; omega
  have hx : xs = A ++ (M1 ++ M2) := by rw [← hM, ← hA, List.take_append_drop]
  have hb0 : w.heap[g]? = some (.cells (A ++ (M1 ++ (M2 ++ rest))).toArray e (0, 0)) := by
    rw [h2, hcur, hx]
    simp
  have hb1 := setCells_mid g l w A M1 (M2 ++ rest) hM1 hb0
  have hb2 := setCells_mid g (T := e) z (w.setCells g A.length l) (A ++ l) M2 rest (by rw [hM2, hz]) (by rw [hb1]; simp)
  have hAll : (A ++ l).length = (n - 1) * sz := by rw [List.length_append]; omega
  rw [hAll, hAl] at hb2
  rw [hA, hl]
  refine ⟨hAll, .inr ⟨g, cap, _, rfl, h1, hb2, by omega, h4, ?_, ?_⟩⟩
  · have hs : cur.size = (A ++ l ++ (z ++ rest)).toArray.size := by
      rw [hcur, hx]
      simp
      omega
    rw [← hs]
    exact h5
  · rw [← hAll]
    exact List.take_left' rfl
end Go.Proofs.YtcpaaleogmiamaaGreatDoor
namespace Go.Proofs.YtcpaaleogmiamaaGreatDoor
open Go.RowKit

set_option maxRecDepth 1000000 in
set_option maxHeartbeats 4000000 in
theorem DeleteSeg_any {w : World} {N g cap n i : Nat} {xs : List Value} (h : w.ownsRow N 158 3 (.slice (some ⟨g, 0, none⟩) n cap) n xs) (hi : i < n) (hone : ∀ u ∈ xs, u.oneCell' = true) :
    Calls Tryz.prog 165 #[.slice (some ⟨g, 0, none⟩) n cap, .int .i64 (i : Int), .int .i64 ((i + 1 : Nat) : Int)] w fun e w' => e = .returned (.slice (some ⟨g, 0, none⟩) (n - 1) cap) ∧
      w'.ownsRow N 158 3 (.slice (some ⟨g, 0, none⟩) (n - 1) cap) (n - 1) (xs.take (i * 3) ++ xs.drop ((i + 1) * 3)) ∧ Upd (fun k => k = g) w w' := by
  have hfin := owns_del (sz := 3) (z := [.int .i64 0, .slice none 0 0, .int .i64 0]) h hi rfl
  have hfind := owns_del (sz := 3) (w := w.drew) (z := [.int .i64 0, .slice none 0 0, .int .i64 0]) (by exact h) hi rfl
  obtain ⟨g', cap', cur, h0, h1, h2, h3, h4, h5, h6⟩ : ∃ g' cap' cur, (Value.slice (some ⟨g, 0, none⟩) n cap) = .slice (some ⟨g', 0, none⟩) n cap' ∧ N ≤ g' ∧ w.heap[g']? = some (.cells cur 158 (0, 0)) ∧ n ≤ cap' ∧ cap' ≤ maxLen ∧ cur.size = cap' * 3 ∧ cur.toList.take (n * 3) = xs := by
    rcases h.2 with ⟨h0, -⟩ | ⟨g', cap', cur, h0, h1, h2, h3, h4, h5, h6⟩
    · cases h0
    · exact ⟨g', cap', cur, h0, h1, h2, h3, h4, h5, h.1 ▸ h6⟩
  simp only [Value.slice.injEq, Option.some.injEq, Addr.mk.injEq, and_true, true_and] at h0
  obtain ⟨rfl, rfl⟩ := h0
  have hxl := h.1
  have hcell : ∀ o, o < cap * 3 → (w.cell? ⟨g, o, none⟩).isSome = true ∧ w.frozen? ⟨g, o, none⟩ = false := fun o ho => by
    refine ⟨?_, frozen_of h2⟩
    rw [cell_of_row w g o _ _ _ h2, Array.getElem?_eq_getElem (by omega)]
    rfl
  have hval : ∀ o u, xs[o]? = some u → w.cell? ⟨g, o, none⟩ = some u := fun o u hu => by
    rw [cell_of_row w g o _ _ _ h2]
    rw [← h6, List.getElem?_take] at hu
    split at hu
    · simpa using hu
    · cases hu
  obtain ⟨news, hnews⟩ : ∃ news, xs.drop ((i + 1) * 3) = news := ⟨_, rfl⟩
  have hlen : news.length = (n - (i + 1)) * 3 := by rw [← hnews, List.length_drop, hxl]; omega
  obtain ⟨A, hA, hsrc⟩ : ∃ A : Addr, (if cap = i + 1 then some (⟨g, 0, none⟩ : Addr) else some ⟨g, (i + 1) * 3, none⟩) = some A ∧ Hid (∀ t u, news[t]? = some u → w.drew.cell? (A.add t) = some u) := by
    by_cases hc : cap = i + 1
    · refine ⟨⟨g, 0, none⟩, by simp [hc], fun t u hu => ?_⟩
      have h0 : news.length = 0 := by rw [hlen]; omega
      rw [List.length_eq_zero_iff.1 h0] at hu
      simp at hu
    · refine ⟨⟨g, (i + 1) * 3, none⟩, by simp [hc], fun t u hu => ?_⟩
      rw [← hnews, List.getElem?_drop] at hu
      rw [Addr.add_lit]
      exact hval _ _ hu
  have s2 : Hid (∀ u ∈ news, u.oneCell' = true) := fun u hu => hone u (by rw [← hnews] at hu; exact List.mem_of_mem_drop hu)
  have s3 : Hid (∀ t, t < news.length → (w.drew.cell? ⟨g, 0 + i * 3 + t, none⟩).isSome = true ∧ w.drew.frozen? ⟨g, 0 + i * 3 + t, none⟩ = false) := fun t ht => by
    rw [hlen] at ht
    rw [Nat.zero_add]
    exact hcell _ (by omega)
  have s1 := Lib.hid hlen
  have hset : (w.drew.setCells g (0 + i * 3) news).heap[g]? = some (.cells (xs.take (i * 3) ++ (news ++ cur.toList.drop (n * 3 - 3))).toArray 158 (0, 0)) := by
    have hA : (xs.take (i * 3)).length = 0 + i * 3 := by rw [List.length_take, hxl]; omega
    have hcx : cur.toList = xs ++ cur.toList.drop (n * 3) := by rw [← h6, List.take_append_drop]
    rw [← hA]
    refine setCells_mid g (T := 158) news w.drew (xs.take (i * 3)) ((cur.toList.drop (i * 3)).take news.length) (cur.toList.drop (n * 3 - 3)) ?_ ?_
    · have hcs : cur.toList.length = cap * 3 := by simpa using h5
      rw [List.length_take, List.length_drop, hcs, hlen]
      omega
    · show w.heap[g]? = _
      rw [h2]
      congr 2
      apply Array.ext'
      have hd : cur.toList.drop (n * 3 - 3) = (cur.toList.drop (i * 3)).drop news.length := by
        rw [List.drop_drop, hlen]
        congr 1
        omega
      have ht : xs.take (i * 3) = cur.toList.take (i * 3) := by
        rw [← h6, List.take_take, Nat.min_eq_left (by omega)]
      rw [hd, List.take_append_drop, ht, List.take_append_drop]
  obtain ⟨W1, hW1⟩ : ∃ W1, W1 = w.drew.setCells g (0 + i * 3) news := ⟨_, rfl⟩
  have k1 : i + (n - (i + 1)) = n - 1 := by omega
  have k2 : n - (i + (n - (i + 1))) = 1 := by omega
  have hnc : n * 3 ≤ cap * 3 := Nat.mul_le_mul_right 3 h3
  have hn1 : (n - 1) * 3 + 3 = n * 3 := by omega
  have hcl : ∀ ty, (Builtin.clear_ #[159] ty #[.slice (some ⟨g, (i + (n - (i + 1))) * 3, none⟩) (n - (i + (n - (i + 1)))) (cap - (i + (n - (i + 1))))]).run Tryz.prog W1 = .ok (.tuple #[]) (W1.setCells g ((n - 1) * 3) [.int .i64 0, .slice none 0 0, .int .i64 0]) := fun ty => by
    rw [k2, k1]
    refine run_clear_one W1 _ _ ty _ _ und_segs zero_seg zero_segCells (by simp [Value.oneCell']) g _ _ (fun j hj => ?_) (fun j hj => ?_)
    · rw [hW1]
      exact World.isSome_setCells g _ _ _ _ (hcell _ (by simp at hj; omega)).1
    · rw [hW1]
      exact frozen_of hset
  have HK1 := Lib.hid k1
  clear k1 k2 hnc hn1
  have hW : Hid (W1 = w.drew.setCells g (0 + i * 3) news) := hW1
  obtain ⟨i0, ki, kz0, kz1, kz2⟩ := info_parts info_seg
  have HF := Lib.hid hfind
  have hcn : n ≤ cap := h3
  have hcm : cap ≤ 9223372036854775807 := by unfold maxLen at h4; omega
  have HNW := Lib.hid hnews
  have b5 : (0 : Int) ≤ (i : Int) + 1 := by omega
  have b0 : (0 : Int) ≤ (i : Int) := by omega
  have b1 : (i : Int) ≤ (cap : Int) := by omega
  have b2 : (i : Int) + 1 ≤ (n : Int) := by omega
  have b3 : (i : Int) ≤ (n : Int) := by omega
  have b4 : (n : Int) ≤ (cap : Int) := by omega
  clear hset hW1 hfin hfind h h2 h5 h6 hcell hval hnews hlen hone h4 hxl
  go_enter Tryz.func165, Tryz.ntmps165
  go_wp2_with fail
  go_region_law (refine step_append_room rfl (.tmp 22) (.tmp 25) 159 rfl 158 i0 3 und_segs ki kz1 g 0 i cap (by simp [Act.eval, Act.put]) A (n - (i + 1)) (cap - (i + 1)) news (by simp [Act.eval, Act.put]) s1.out hsrc.out s2.out (by omega) s3.out ?_; rw [← hW.out])
  go_wp2
  go_ret
  have hq := HF.out
  rw [HNW.out, ← Nat.zero_add (i * 3), ← hW.out] at hq
  rw [HK1.out]
  rw [Nat.zero_add] at hq
  rw [HNW.out]
  exact ⟨rfl, hq.1, (upd_drew _ w).trans hq.2⟩
end Go.Proofs.YtcpaaleogmiamaaGreatDoor
namespace Go.Proofs.YtcpaaleogmiamaaGreatDoor
open Go.RowKit

theorem fl_erase {α : Type} {f : α → List Value} (hf : ∀ y, (f y).length = 3) : ∀ (l : List α) (i : Nat), i < l.length → (l.flatMap f).take (i * 3) ++ (l.flatMap f).drop ((i + 1) * 3) = (l.eraseIdx i).flatMap f
  | [], i, h => absurd h (Nat.not_lt_zero i)
  | x :: l, 0, _ => by
    have h3 := hf x
    simp only [Nat.zero_mul, List.take_zero, List.nil_append, Nat.zero_add, Nat.one_mul, List.eraseIdx_cons_zero, List.flatMap_cons]
    rw [← h3, List.drop_left]
  | x :: l, i + 1, h => by
    have h3 := hf x
    have ih := fl_erase hf l i (by simpa using h)
    have e1 : (i + 1) * 3 = (f x).length + i * 3 := by omega
    have e2 : (i + 1 + 1) * 3 = (f x).length + (i + 1) * 3 := by omega
    rw [List.flatMap_cons, List.eraseIdx_cons_succ, List.flatMap_cons, e2, List.drop_length_add_append, e1, List.take_length_add_append, List.append_assoc, ← e1, ih]

theorem map_eraseAt {α β : Type} (f : α → β) : ∀ (l : List α) (i : Nat), (l.eraseIdx i).map f = (l.map f).eraseIdx i
  | [], _ => rfl
  | _ :: _, 0 => rfl
  | x :: l, i + 1 => by
    rw [List.eraseIdx_cons_succ, List.map_cons, map_eraseAt f l i]
    rfl

theorem StIn.del {w w' : World} {S : Nat → Prop} {sb tb : Nat} {x : St} {m : List (Value × Sg)} {D : Nat → Prop} {g n cap : Nat} (h : StIn w S sb tb x (.slice (some ⟨g, 0, none⟩) n cap) m D) (i : Nat) (hi : i < m.length) (hn : n = m.length)
    (ho : w'.ownsRow 0 158 3 (.slice (some ⟨g, 0, none⟩) (n - 1) cap) (n - 1) ((sgCells m).take (i * 3) ++ (sgCells m).drop ((i + 1) * 3))) (hu : Upd (fun k => k = g) w w') :
    StIn (w'.setCell ⟨sb, 3, none⟩ (.slice (some ⟨g, 0, none⟩) (n - 1) cap)) S sb tb { x with segs := x.segs.eraseIdx i } (.slice (some ⟨g, 0, none⟩) (n - 1) cap) (m.eraseIdx i) D ∧
    Upd S w (w'.setCell ⟨sb, 3, none⟩ (.slice (some ⟨g, 0, none⟩) (n - 1) cap)) ∧ w'.heap[sb]? = w.heap[sb]? := by
  have hset := upd_set1 w' sb 3 (.slice (some ⟨g, 0, none⟩) (n - 1) cap)
  have hne : sb ≠ g := fun e => h.ne (by rw [e]; rfl)
  have hsb := h.lt sb h.own
  have hblk := hu.block sb hsb hne
  have hz1 := hu.size
  have hz2 := hset.size
  refine ⟨⟨?_, ?_, ?_, ?_, ?_, h.own, ?_, ?_⟩, ?_, hblk⟩
  · exact setCell_same (o := 3) (v := .slice (some ⟨g, 0, none⟩) (n - 1) cap) (hblk.trans h.blk)
  · rw [← h.segs]
    exact map_eraseAt _ m i
  · have e : sgCells (m.eraseIdx i) = (sgCells m).take (i * 3) ++ (sgCells m).drop ((i + 1) * 3) := by rw [sgCells_el, sgCells_el, fl_erase sgEl_len m i hi]
    rw [e, List.length_eraseIdx_of_lt hi, ← hn]
    exact owns_upd ho hset (fun c hc e => by
      simp only [Value.ownBlock, Option.some.injEq] at hc
      exact hne (e.symm.trans hc.symm))
  · intro y hy
    exact ((h.lists y (List.mem_of_mem_eraseIdx hy)).upd hu (fun c hc _ e => (h.apart c hc).2.2 (by rw [e]; rfl))).upd hset (fun c hc _ e => (h.apart c hc).2.1 e)
  · intro c hc
    exact h.apart c hc
  · intro c hc
    exact h.ownG c hc
  · intro c hc
    have := h.lt c hc
    omega
  · exact (hu.mono (fun c _ e => by rw [e]; exact h.ownG g rfl)).trans (hset.mono (fun c _ e => by rw [e]; exact h.own))
end Go.Proofs.YtcpaaleogmiamaaGreatDoor
