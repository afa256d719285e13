/- The walk of strand.load. (Printed by gen_stlo.py.) -/
import Derived.Test.YtcpaaleogmiamaaGreatDoorMp20
import Derived.Test.YtcpaaleogmiamaaGreatDoorMp25
import Derived.Test.YtcpaaleogmiamaaGreatDoorMp13
namespace Go.Proofs.YtcpaaleogmiamaaGreatDoor
open Go.RowKit

theorem loadF_ok : ∀ (f : Nat) (s : List UInt8) (k : Nat) (n0 : Int) (acc : List Batch), Chained n0 acc → k = (sgB acc).length → Chained n0 (loadF f s k (endL n0 acc) acc).1 ∧ (loadF f s k (endL n0 acc) acc).2 = (sgB (loadF f s k (endL n0 acc) acc).1).length
  | 0, _, _, _, _, h, hk => ⟨h, hk⟩
  | f + 1, s, k, n0, acc, h, hk => by
    rw [loadF]
    split
    · exact ⟨h, hk⟩
    · rename_i hc
      split
      · exact ⟨h, hk⟩
      · rename_i b hb
        split
        · exact ⟨h, hk⟩
        · rename_i hbn
          have hbn : b.base = endL n0 acc := Classical.byContradiction hbn
          obtain ⟨y, m, c, hx⟩ : ∃ y m c, nextV s k = (y, m, c) := ⟨_, _, _, rfl⟩
          rw [hx] at hb hc ⊢
          simp only at hb hc ⊢
          have hc0 : c = 0 := Classical.byContradiction hc
          subst hc0
          obtain ⟨hg, hy⟩ := (decB_iff _ _).1 hb
          have hl := nextV_len hx
          have h2 : Chained n0 (acc ++ [b]) := h.append ⟨hg, hbn, trivial⟩
          have he : b.base + b.count = endL n0 (acc ++ [b]) := (endL_snoc b acc n0).symm
          rw [he]
          refine loadF_ok f s m n0 (acc ++ [b]) h2 ?_
          rw [sgB_snoc, List.length_append, frameB_len, ← hy]
          omega
theorem loadS_ok (s : List UInt8) (n : Int) : Chained n (loadS s n).1 ∧ (loadS s n).2 = (sgB (loadS s n).1).length := loadF_ok (s.length + 1) s 0 n [] trivial rfl

/-- Where load stands. -/
structure LoSt (w W : World) (rb gb : Nat) (n : Int) (acc : List Batch) (k : Nat) (lv : Value) : Prop where
  res : W.heap[rb]? = some (.cells #[.int .i64 0, .slice none 0 0, .int .i64 0] 158 (0, 0))
  blk : W.heap[gb]? = some (.cells #[.int .i64 n, lv, .int .i64 (k : Int)] 158 (0, 0))
  ne : rb ≠ gb ∧ w.heap.size ≤ rb ∧ w.heap.size ≤ gb
  row : ∃ m : List (Value × Batch), m.map (·.2) = acc ∧ W.ownsRow w.heap.size 40 6 lv acc.length (bCells m) ∧ ∀ x ∈ m, InS W (fun b => w.heap.size ≤ b ∧ b ≠ rb ∧ b ≠ gb ∧ lv.ownBlock ≠ some b) (fun W => RcsRd W x.1 x.2.recs)
  len : k = (sgB acc).length
  chain : Chained n acc
  bel : Below w.heap.size w W
section
variable {w W W' : World} {rb gb : Nat} {n : Int} {acc : List Batch} {k : Nat} {lv : Value}
theorem LoSt.lt (h : LoSt w W rb gb n acc k lv) : rb < W.heap.size ∧ gb < W.heap.size := ⟨(Array.getElem?_eq_some_iff.1 h.res).1, (Array.getElem?_eq_some_iff.1 h.blk).1⟩
theorem LoSt.below (h : LoSt w W rb gb n acc k lv) (hb : Below W.heap.size W W') : LoSt w W' rb gb n acc k lv := by
  obtain ⟨m, h1, h2, h3⟩ := h.row
  exact ⟨(hb.block _ h.lt.1).trans h.res, (hb.block _ h.lt.2).trans h.blk, h.ne, ⟨m, h1, owns_upd h2 (Upd.of_below (F := fun _ => False) hb) (fun _ _ h => h), fun x hx => (h3 x hx).below hb⟩, h.len, h.chain, h.bel.trans (hb.mono h.bel.size)⟩
theorem LoSt.rd (h : LoSt w W rb gb n acc k lv) : BsIn W (fun b => w.heap.size ≤ b ∧ b ≠ rb) lv acc := by
  obtain ⟨m, h1, h2, h3⟩ := h.row
  have hml : m.length = acc.length := by rw [← h1, List.length_map]
  have h4 := owns_inS h2 (S := fun b => w.heap.size ≤ b ∧ b ≠ rb) (fun b hb => ⟨(owns_lt h2 b hb).1, fun e => by
    obtain ⟨cur, hc⟩ := owns_kind3 h2 b hb
    rw [e, h.res] at hc
    simp at hc⟩)
  exact ⟨m, h1, by rw [hml]; exact h4, fun x hx => (h3 x hx).grow (fun b hb _ => ⟨hb.1, hb.2.1⟩)⟩
theorem LoSt.cells (h : LoSt w W rb gb n acc k lv) : W.cell? ⟨gb, 0, none⟩ = some (.int .i64 n) ∧ W.cell? ⟨gb, 1, none⟩ = some lv ∧ W.cell? ⟨gb, 2, none⟩ = some (.int .i64 (k : Int)) ∧ W.frozen? ⟨gb, 1, none⟩ = false ∧ W.frozen? ⟨gb, 2, none⟩ = false ∧
    W.cell? ⟨rb, 0, none⟩ = some (.int .i64 0) ∧ W.cell? ⟨rb, 1, none⟩ = some (.slice none 0 0) ∧ W.cell? ⟨rb, 2, none⟩ = some (.int .i64 0) ∧ W.frozen? ⟨rb, 0, none⟩ = false ∧ W.frozen? ⟨rb, 1, none⟩ = false ∧ W.frozen? ⟨rb, 2, none⟩ = false :=
  ⟨cells_of h.blk 0 _ rfl, cells_of h.blk 1 _ rfl, cells_of h.blk 2 _ rfl, frozen_of h.blk, frozen_of h.blk, cells_of h.res 0 _ rfl, cells_of h.res 1 _ rfl, cells_of h.res 2 _ rfl, frozen_of h.res, frozen_of h.res, frozen_of h.res⟩

def LoadTo (w : World) (s : List UInt8) (n : Int) (e : Ending) (w' : World) : Prop := ∃ lv, e = .returned (.agg #[.int .i64 n, lv, .int .i64 ((sgB (loadS s n).1).length : Int)]) ∧ BsIn w' (fun b => w.heap.size ≤ b) lv (loadS s n).1 ∧ Below w.heap.size w w'

/-- The segment is handed back. -/
theorem LoSt.done (h : LoSt w W rb gb n acc k lv) {s : List UInt8} (hs : loadS s n = (acc, k)) :
    ∃ W', W' = ((W.setCell ⟨rb, 0, none⟩ (.int .i64 n)).setCell ⟨rb, 1, none⟩ lv).setCell ⟨rb, 2, none⟩ (.int .i64 (k : Int)) ∧ W'.heap[rb]? = some (.cells #[.int .i64 n, lv, .int .i64 (k : Int)] 158 (0, 0)) ∧ LoadTo w s n (.returned (.agg #[.int .i64 n, lv, .int .i64 (k : Int)])) W' := by
  have hu : Upd (fun b => b = rb) W (((W.setCell ⟨rb, 0, none⟩ (.int .i64 n)).setCell ⟨rb, 1, none⟩ lv).setCell ⟨rb, 2, none⟩ (.int .i64 (k : Int))) := ((upd_set1 W rb 0 _).trans (upd_set1 _ rb 1 _)).trans (upd_set1 _ rb 2 _)
  refine ⟨_, rfl, setCell_same (o := 2) (v := .int .i64 (k : Int)) (setCell_same (o := 1) (v := lv) (setCell_same (o := 0) (v := .int .i64 n) h.res)), lv, by rw [hs, h.len], ?_, h.bel.trans (hu.toBelow h.bel.size (fun b e => by rw [e]; exact h.ne.2.1))⟩
  rw [hs]
  exact (h.rd.upd hu (fun b hb _ => hb.2)).grow (fun b hb _ => hb.1)

/-- A batch more. -/
theorem LoSt.more (h : LoSt w W rb gb n acc k lv) {W1 W2 : World} {b : Batch} {rv : Value} {ob : Obj} {g cap k' : Nat} {y : List UInt8} {s : List UInt8} {N : Nat} (hb1 : Below W.heap.size W W1) (hN : W.heap.size ≤ N) (hrv : InS W1 (fun b => N ≤ b ∧ b < W1.heap.size) (fun X => RcsRd X rv b.recs))
    (hg : goodB b = true) (hbn : b.base = endL n acc) (hy : y = encB b) (hx : nextV s k = (y, k', 0))
    (hown : W2.ownsRow w.heap.size 40 6 (.slice (some ⟨g, 0, none⟩) (acc.length + 1) cap) (acc.length + 1) (bCells ((h.row.choose)) ++ [.int .i64 b.base, .int .i64 b.count, .int .i64 b.prod, .int .i64 b.seq, .int .i64 b.time, rv]))
    (hgr : (W1.alloc ob).grownBy W2 lv.ownBlock) (hat : lv.ownBlock = some g ∨ g = (W1.alloc ob).heap.size) :
    W2.heap[gb]? = some (.cells #[.int .i64 n, lv, .int .i64 (k : Int)] 158 (0, 0)) ∧ LoSt w ((W2.setCell ⟨gb, 1, none⟩ (.slice (some ⟨g, 0, none⟩) (acc.length + 1) cap)).setCell ⟨gb, 2, none⟩ (.int .i64 (k' : Int))) rb gb n (acc ++ [b]) k' (.slice (some ⟨g, 0, none⟩) (acc.length + 1) cap) := by
  obtain ⟨m, hm⟩ : ∃ m, h.row.choose = m := ⟨_, rfl⟩
  obtain ⟨h1, h2, h3⟩ := h.row.choose_spec
  rw [hm] at hown h1 h2 h3
  obtain ⟨l1, l2⟩ := h.lt
  have hsz := hb1.size
  have hu2 : Upd (fun k => some k = lv.ownBlock) W1 W2 := (upd_alloc _ W1 ob).trans (upd_grown hgr)
  have hset : Upd (fun k => k = gb) W2 ((W2.setCell ⟨gb, 1, none⟩ (.slice (some ⟨g, 0, none⟩) (acc.length + 1) cap)).setCell ⟨gb, 2, none⟩ (.int .i64 (k' : Int))) := (upd_set1 W2 gb 1 _).trans (upd_set1 _ gb 2 _)
  have hlv : ∀ c, lv.ownBlock = some c → c ≠ rb ∧ c ≠ gb ∧ w.heap.size ≤ c ∧ c < W.heap.size := by
    intro c hc
    obtain ⟨cur, hcc⟩ := owns_kind3 h2 c hc
    refine ⟨fun e => ?_, fun e => ?_, owns_lt h2 c hc⟩
    · rw [e, h.res] at hcc; simp at hcc
    · rw [e, h.blk] at hcc; simp at hcc
  have n1 : ¬ some rb = lv.ownBlock := fun e => (hlv rb e.symm).1 rfl
  have n2 : ¬ some gb = lv.ownBlock := fun e => (hlv gb e.symm).2.1 rfl
  have r2 := (hu2.block rb (by omega) n1).trans ((hb1.block rb l1).trans h.res)
  have b2 := (hu2.block gb (by omega) n2).trans ((hb1.block gb l2).trans h.blk)
  have hsz2 := hu2.size
  have hg' : g ≠ gb ∧ g ≠ rb := by
    have hwg : ∃ cur, W2.heap[g]? = some (.cells cur 40 (0, 0)) := owns_kind3 hown g rfl
    obtain ⟨cur, hc⟩ := hwg
    exact ⟨fun e => by rw [e, b2] at hc; simp at hc, fun e => by rw [e, r2] at hc; simp at hc⟩
  have hnew : ∀ c, c < W1.heap.size → lv.ownBlock ≠ some c → (Value.slice (some ⟨g, 0, none⟩) (acc.length + 1) cap).ownBlock ≠ some c := by
    intro c hc hne e
    simp only [Value.ownBlock, Option.some.injEq] at e
    subst e
    rcases hat with e | e
    · exact hne e
    · simp only [World.size_alloc] at e; omega
  refine ⟨b2, (hset.block rb (by omega) h.ne.1).trans r2, setCell_same (o := 2) (v := .int .i64 (k' : Int)) (setCell_same (o := 1) (v := .slice (some ⟨g, 0, none⟩) (acc.length + 1) cap) b2), h.ne, ⟨m ++ [(rv, b)], by simp [h1], ?_, ?_⟩, ?_, h.chain.append ⟨hg, hbn, trivial⟩, ?_⟩
  · have e : bCells (m ++ [(rv, b)]) = bCells m ++ [.int .i64 b.base, .int .i64 b.count, .int .i64 b.prod, .int .i64 b.seq, .int .i64 b.time, rv] := by simp [bCells]
    rw [e, List.length_append]
    exact owns_upd hown hset (fun c hc e => by
      simp only [Value.ownBlock, Option.some.injEq] at hc
      exact hg'.1 (hc.trans e))
  · intro x hx
    rcases List.mem_append.1 hx with hx | hx
    · have i1 : InS W (fun b => (w.heap.size ≤ b ∧ b ≠ rb ∧ b ≠ gb ∧ lv.ownBlock ≠ some b) ∧ b < W.heap.size) (fun X => RcsRd X x.1 x.2.recs) := (h3 x hx).grow (fun b hb hl => ⟨hb, hl⟩)
      have i2 := ((i1.below hb1).upd hu2 (fun b hb _ e => hb.1.2.2.2 e.symm)).upd hset (fun b hb _ e => hb.1.2.2.1 e)
      exact i2.grow (fun b hb _ => ⟨hb.1.1, hb.1.2.1, hb.1.2.2.1, hnew b (by omega) hb.1.2.2.2⟩)
    · simp only [List.mem_singleton] at hx
      subst hx
      have hnl : ∀ b, N ≤ b → lv.ownBlock ≠ some b := fun b hb e => by have := (hlv b e).2.2.2; omega
      have i2 := (hrv.upd hu2 (fun b hb _ e => hnl b hb.1 e.symm)).upd hset (fun b hb _ e => by omega)
      exact i2.grow (fun b hb _ => ⟨by have := h.ne; omega, by omega, by omega, hnew b hb.2 (hnl b hb.1)⟩)
  · rw [sgB_snoc, List.length_append, frameB_len, ← hy, ← h.len, nextV_len hx]
    omega
  · exact ((h.bel.trans (hb1.mono h.bel.size)).trans (hu2.toBelow (by have := h.bel.size; omega) (fun c e => (hlv c e.symm).2.2.1))).trans (hset.toBelow (by have := h.bel.size; omega) (fun c e => by rw [e]; exact h.ne.2.2))
end

set_option maxRecDepth 100000 in
set_option maxHeartbeats 4000000 in
theorem Stload_any {w : World} (hE : Env w) (s : List UInt8) (hs : s.length ≤ 1000000000) {n : Int} (hn : 0 ≤ n ∧ n ≤ 1099511627776) : Calls Tryz.prog 152 #[.string (bs s), .int .i64 n] w (LoadTo w s n) := by
  obtain ⟨R, hR⟩ : ∃ R, loadF (s.length + 1) s 0 n [] = R := ⟨_, rfl⟩
  have hRS : loadS s n = R := hR
  obtain ⟨i0, hi, hz0, hz1, hz2⟩ := info_parts info_Batch6
  have HR := Lib.hid (And.intro hR hRS)
  have HE := Lib.hid hE
  have HNN := Lib.hid hn
  clear hR hRS hE hn
  go_enter Tryz.func152, Tryz.ntmps152
  obtain ⟨rb, hrb⟩ : ∃ rb, w.heap.size = rb := ⟨_, rfl⟩
  obtain ⟨w1, hw1⟩ : ∃ w1, w1 = (w.alloc (.cells #[.int .i64 0, .slice none 0 0, .int .i64 0] 158)).alloc (.cells #[.int .i64 n, .slice none 0 0, .int .i64 0] 158) := ⟨_, rfl⟩
  obtain ⟨gb, hgb⟩ : ∃ gb, rb + 1 = gb := ⟨_, rfl⟩
  have hst : LoSt w w1 rb gb n [] 0 (.slice none 0 0) := by
    rw [hw1, ← hgb, ← hrb]
    refine ⟨(Below.heap_alloc _ _ _ (by simp)).trans (heap_alloc_new _ _), heap_new1 _ _ _, ⟨by omega, by omega, by omega⟩, ⟨[], rfl, World.ownsRow_nil _ _ _ _, by simp⟩, rfl, trivial, below_alloc2 _ _ _⟩
  have HST := Lib.hid hst
  have HGB := Lib.hid hgb
  clear hst
  go_wp2
  refine wp_scope_back2 0 (fun a' wt => ∃ (acc : List Batch) (k f : Nat) (lv : Value) (u6 u7 u8 u9 u10 u11 u12 u13 u14 u15 u16 u17 u18 u19 u20 u21 u22 u23 u24 u25 u26 u27 u28 u29 u30 u31 u32 u33 u34 u35 u36 u37 u38 u39 u40 u41 u42 u43 u44 u45 : Value), k ≤ s.length ∧ s.length < f + k ∧ loadF f s k (endL n acc) acc = R ∧ LoSt w wt rb gb n acc k lv ∧ a' = { tmps := #[.string (bs s), .int .i64 n, undef, undef, .pointer (some ⟨rb, 0, none⟩), .pointer (some ⟨gb, 0, none⟩), u6, u7, u8, u9, u10, u11, u12, u13, u14, u15, u16, u17, u18, u19, u20, u21, u22, u23, u24, u25, u26, u27, u28, u29, u30, u31, u32, u33, u34, u35, u36, u37, u38, u39, u40, u41, u42, u43, u44, u45], defers := [] })
    (fun _ wt => match wt.cell? ⟨gb, 2, none⟩ with | some (.int _ k) => s.length - k.toNat | _ => 0) { tmps := #[.string (bs s), .int .i64 n, undef, undef, .pointer (some ⟨rb, 0, none⟩), .pointer (some ⟨gb, 0, none⟩), undef, undef, undef, undef, .int .i64 n, .agg #[.int .i64 n, .slice none 0 0, .int .i64 0], undef, undef, undef, undef, undef, undef, undef, undef, undef, undef, undef, undef, undef, undef, undef, undef, undef, undef, undef, undef, undef, undef, undef, undef, undef, undef, undef, undef, undef, undef, undef, undef, undef, undef], defers := [] } w1 rfl ?_ ⟨[], 0, s.length + 1, .slice none 0 0, _, _, _, _, _, _, _, _, _, _, _, _, _, _, _, _, _, _, _, _, _, _, _, _, _, _, _, _, _, _, _, _, _, _, _, _, _, _, _, _, Nat.zero_le _, by omega, HR.out.1, HST.out, rfl⟩ ?_
  · intro Q' h
    go_wp2
    go_step3
    rename_i K hK
    rw [hw1] at h
    exact hK _ _ h
  · clear hw1 hgb HST
    rintro a' wr ⟨acc, k, f, lv, u6, u7, u8, u9, u10, u11, u12, u13, u14, u15, u16, u17, u18, u19, u20, u21, u22, u23, u24, u25, u26, u27, u28, u29, u30, u31, u32, u33, u34, u35, u36, u37, u38, u39, u40, u41, u42, u43, u44, u45, hk, hf, hl, hst, rfl⟩
    obtain ⟨f, rfl⟩ : ∃ g, f = g + 1 := ⟨f - 1, by omega⟩
    obtain ⟨la, lc, rfl, -⟩ := BsRd.cells hst.rd.here
    obtain ⟨y, n', cd, hx⟩ : ∃ y n cd, nextV s k = (y, n, cd) := ⟨_, _, _, rfl⟩
    have hnx : ∀ W, Calls Tryz.prog 132 #[.string (bs s), .int .i64 (k : Int)] W fun e w' => e = .returned (.tuple #[.string (bs y), .int .i64 (n' : Int), .int .i64 cd]) ∧ Below W.heap.size W w' := by
      intro W
      have := FrNext_any s (by omega) k (by omega) W
      rw [hx] at this
      exact this
    obtain ⟨c0, c1, c2, f1, f2, d0, d1, d2, e0, e1, e2⟩ := hst.cells
    have HN := Lib.hid hnx
    have HL := Lib.hid hl
    have HS := Lib.hid hst
    clear hnx hl
    by_cases hcd : cd = 0
    · subst hcd
      obtain ⟨hlt1, hlt2, hyl⟩ := nextV_lt hx
      have hde : ∀ W, Below wr.heap.size wr W → Calls Tryz.prog 191 #[.string (bs y)] W (DecBTo W (decB y)) := fun W hb => CrDecode_any y (by omega) (HE.out.below (HS.out.bel.trans (hb.mono HS.out.bel.size)))
      cases hd : decB y with
      | none =>
        rw [hd] at hde
        have hno : loadF (f + 1) s k (endL n acc) acc = (acc, k) := by simp only [loadF]; rw [hx]; simp only [ne_eq, not_true_eq_false, if_false]; rw [hd]
        have hfin : loadS s n = (acc, k) := by rw [HR.out.2, ← HL.out, hno]
        have HFIN := Lib.hid hfin
        have HDE := Lib.hid hde
        clear hno hx hfin hde hd hst c0 c1 f1 f2 d0 d1 d2 e0 e1 e2
        go_wp2_with fail
        refine (HN.out _).mono ?_
        rintro _ w2 ⟨rfl, hb2⟩
        clear c2
        go_wp2_with fail
        refine (HDE.out _ hb2).mono ?_
        rintro _ w3 ⟨rv, rfl, hi3, hb3⟩
        obtain ⟨ra, rc, rfl, -⟩ := RcsRd.cells hi3.here
        simp only [Batch.v, Option.getD_none, Batch.zero, Option.isSome_none, Bool.false_eq_true, if_false, List.length_nil]
        have hw4 : Below wr.heap.size wr (w3.alloc (.cells #[.int .i64 0, .int .i64 0, .int .i64 0, .int .i64 0, .int .i64 0, .slice ra 0 rc] 40)) := (below_trans hb2 hb3).alloc (below_trans hb2 hb3).size _
        clear hi3 hb2 hb3
        go_upto_region 6 with fail
        go_quiet (fail)
        obtain ⟨w5, hw5⟩ : ∃ w5, w5 = (w3.alloc (.cells #[.int .i64 0, .int .i64 0, .int .i64 0, .int .i64 0, .int .i64 0, .slice ra 0 rc] 40)).drewN nq := ⟨_, rfl⟩
        have hw6 : Below wr.heap.size wr w5 := by rw [hw5]; exact below_drewN hw4 nq
        rw [← hw5]
        have HW := Lib.hid hw6
        clear hw4 hw5 hw6
        
        obtain ⟨c0, c1, c2, f1, f2, d0, d1, d2, e0, e1, e2⟩ := (HS.out.below HW.out).cells
        obtain ⟨W9, hW9, hx9, hD9⟩ := (HS.out.below HW.out).done HFIN.out
        have g0 := cells_of hx9 0 _ rfl
        have g1 := cells_of hx9 1 _ rfl
        have g2 := cells_of hx9 2 _ rfl
        have HD := Lib.hid hD9
        clear hx9 hD9
        go_wp2
        rw [← hW9]
        try simp only [Exit.jump]
        exact bodyPost_ret (v := .agg #[.int .i64 n, .slice la acc.length lc, .int .i64 (k : Int)]) (by simp [results, Tryz.results152, go_sem, g0, g1, g2]) rfl HD.out
      | some b =>
        rw [hd] at hde
        obtain ⟨hgd, hyb⟩ := (decB_iff _ _).1 hd
        have hstep : loadF (f + 1) s k (endL n acc) acc = if b.base ≠ endL n acc then (acc, k) else loadF f s n' (b.base + b.count) (acc ++ [b]) := by simp only [loadF]; rw [hx]; simp only [ne_eq, not_true_eq_false, if_false]; rw [hd]
        have hsg := fun W (hW : Below wr.heap.size wr W) => sgend_any ((hst.below hW).rd.here) n (k : Int) hst.chain
        have HSG := Lib.hid hsg
        have HST := Lib.hid hstep
        have HDE := Lib.hid hde
        have HX := Lib.hid hx
        have HGD := Lib.hid (And.intro hgd hyb)
        clear hx hde hd hst c0 c1 f1 f2 d0 d1 d2 e0 e1 e2 hstep hsg hgd hyb
        go_wp2_with fail
        refine (HN.out _).mono ?_
        rintro _ w2 ⟨rfl, hb2⟩
        clear c2
        go_wp2_with fail
        refine (HDE.out _ hb2).mono ?_
        rintro _ w3 ⟨rv, rfl, hi3, hb3⟩
        have hi3 : InS w3 (fun k => w2.heap.size ≤ k) (fun W => RcsRd W rv b.recs) := hi3
        obtain ⟨ra, rc, rfl, -⟩ := RcsRd.cells hi3.here
        simp only [Batch.v, Option.getD_some, Option.isSome_some, if_true]
        obtain ⟨q0, q1, q2, q3, q4, qr⟩ := b
        simp only at hi3 ⊢
        go_upto_region 6 with fail
        obtain ⟨w4, hw4⟩ : ∃ w4, w4 = w3.alloc (.cells #[.int .i64 q0, .int .i64 q1, .int .i64 q2, .int .i64 q3, .int .i64 q4, .slice ra qr.length rc] 40) := ⟨_, rfl⟩
        obtain ⟨bb, hbb⟩ : ∃ bb, w3.heap.size = bb := ⟨_, rfl⟩
        have hbx : w4.heap[bb]? = some (.cells #[.int .i64 q0, .int .i64 q1, .int .i64 q2, .int .i64 q3, .int .i64 q4, .slice ra qr.length rc] 40 (0, 0)) := by rw [hw4, ← hbb]; exact heap_alloc_new _ _
        have hb4 : Below wr.heap.size wr w4 := by rw [hw4]; exact (below_trans hb2 hb3).alloc (below_trans hb2 hb3).size _
        have hi4 : InS w4 (fun k => w2.heap.size ≤ k ∧ k < w4.heap.size) (fun W => RcsRd W (.slice ra qr.length rc) qr) := by
          rw [hw4]
          exact (hi3.below (below_alloc _ _)).grow (fun k hk hl => ⟨hk, hl⟩)
        rw [← hw4, hbb]
        have hK : ∀ W, Below w4.heap.size w4 W → W.cell? ⟨bb, 0, none⟩ = some (.int .i64 q0) ∧ W.cell? ⟨bb, 1, none⟩ = some (.int .i64 q1) ∧ W.cell? ⟨bb, 2, none⟩ = some (.int .i64 q2) ∧ W.cell? ⟨bb, 3, none⟩ = some (.int .i64 q3) ∧ W.cell? ⟨bb, 4, none⟩ = some (.int .i64 q4) ∧ W.cell? ⟨bb, 5, none⟩ = some (.slice ra qr.length rc) ∧
            W.cell? ⟨gb, 0, none⟩ = some (.int .i64 n) ∧ W.cell? ⟨gb, 1, none⟩ = some (.slice la acc.length lc) ∧ W.cell? ⟨gb, 2, none⟩ = some (.int .i64 (k : Int)) := by
          intro W hW
          have h1 := (hW.block bb (Array.getElem?_eq_some_iff.1 hbx).1).trans hbx
          obtain ⟨x0, x1, x2, -⟩ := (HS.out.below (below_trans hb4 hW)).cells
          exact ⟨cells_of h1 0 _ rfl, cells_of h1 1 _ rfl, cells_of h1 2 _ rfl, cells_of h1 3 _ rfl, cells_of h1 4 _ rfl, cells_of h1 5 _ rfl, x0, x1, x2⟩
        have hsg4 : ∀ W, Below w4.heap.size w4 W → Calls Tryz.prog 85 #[.agg #[.int .i64 n, .slice la acc.length lc, .int .i64 (k : Int)]] W fun e w' => e = .returned (.int .i64 (endL n acc)) ∧ Below w4.heap.size w4 w' :=
          fun W hW => (HSG.out W (below_trans hb4 hW)).mono (fun e w' h => ⟨h.1, hW.trans (h.2.mono hW.size)⟩)
        have HK := Lib.hid hK
        have HS4 := Lib.hid hsg4
        have H4 := Lib.hid (And.intro hb4 (And.intro hi4 hb2.size))
        obtain ⟨k0, k1, k2, k3, k4, k5, l0, l1, l2⟩ := hK w4 (Below.refl _ _)
        clear hK hsg4 hb4 hi4 hbx hw4 hbb hi3 hb2 hb3 HSG HDE
        obtain ⟨en, hen⟩ : ∃ en, endL n acc = en := ⟨_, rfl⟩
        have HEN := Lib.hid hen
        rw [hen] at HS4
        clear hen
        by_cases hbn : q0 = en
        · have hbn2 : (q0 != en) = false := by simpa using hbn
          have HBN := Lib.hid hbn
          clear hbn
          go_region_held3 (fun W' => W'.cell? ⟨bb, 0, none⟩ = some (.int .i64 q0) ∧ W'.cell? ⟨gb, 0, none⟩ = some (.int .i64 n) ∧ W'.cell? ⟨gb, 1, none⟩ = some (.slice la acc.length lc) ∧ W'.cell? ⟨gb, 2, none⟩ = some (.int .i64 (k : Int)))
            (first | with_reducible exact ⟨k0, l0, l1, l2⟩ | with_reducible exact ⟨(HK.out _ (Below.refl _ _).drew).1, (HK.out _ (Below.refl _ _).drew).2.2.2.2.2.2⟩ | (have hg := hb5; with_reducible exact ⟨(HK.out _ hb5).1, (HK.out _ hb5).2.2.2.2.2.2⟩))
            (first | (go_at_call 85; refine (HS4.out _ ?_).mono ?_; (first | with_reducible exact Below.refl _ _ | with_reducible exact (Below.refl _ _).drew); rintro _ w5 ⟨rfl, hb5⟩))
          have hr5 := HK.out w5 hb5
          obtain ⟨x0, x1, x2, x3, x4, x5, y0, y1, y2⟩ := hr5
          have hb45 := below_trans H4.out.1 hb5
          have hown5 := owns_upd HS.out.row.choose_spec.2.1 (Upd.of_below (F := fun _ => False) hb45) (fun _ _ h => h)
          have hi5 : InS w5 (fun k => w2.heap.size ≤ k ∧ k < w5.heap.size) (fun W => RcsRd W (.slice ra qr.length rc) qr) := (H4.out.2.1.below hb5).grow (fun k hk hl => ⟨hk.1, hl⟩)
          have hal : acc.length ≤ 1000000000 := by have := sgB_ge acc; have := HS.out.len; omega
          have hlast : loadF f s n' (endL n (acc ++ [⟨q0, q1, q2, q3, q4, qr⟩])) (acc ++ [⟨q0, q1, q2, q3, q4, qr⟩]) = R := by
            rw [← HL.out, HST.out, if_neg (fun h => h (by rw [HBN.out, HEN.out])), endL_snoc]
          have hN5 : w.heap.size ≤ w5.heap.size := (HS.out.bel.trans (hb45.mono HS.out.bel.size)).size
          have HO := Lib.hid hown5
          have HI5 := Lib.hid (And.intro hb45 (And.intro hi5 hlast))
          clear hb45 hown5 hi5 hlast hb5 k0 k1 k2 k3 k4 k5 l0 l1 l2 HK HS4
          go_wp2_with (first
            | (at_builtin; refine wpList_append_lies _ rfl _ _ 89 rfl w.heap.size 40 i0 _ 6 64 und_Batches6 hi hz0 hz1 hz2 rfl (by decide) (.slice la acc.length lc) acc.length (bCells HS.out.row.choose) rfl (HO.out.alloc _) ⟨w5.heap.size, 0, none⟩ 1 1 [.int .i64 q0, .int .i64 q1, .int .i64 q2, .int .i64 q3, .int .i64 q4, .slice ra qr.length rc] rfl rfl (World.news_of_block (cs := #[.int .i64 q0, .int .i64 q1, .int .i64 q2, .int .i64 q3, .int .i64 q4, .slice ra qr.length rc]) (t := 40) (fr := (0, 0)) (heap_alloc_new w5 _)) (by simp [Value.oneCell']) (by decide) ?_ ?_ ?_ _ rfl ?_; (unfold maxLen; omega); omega; (simp only [World.size_alloc]; omega); intro g9 gcap9 w9 hown9 hgrow9 hat9 hlt9; have hm9 := HS.out.more HI5.out.1 H4.out.2.2 HI5.out.2.1 HGD.out.1 (by rw [HEN.out]; exact HBN.out) HGD.out.2 HX.out hown9 hgrow9 hat9; have HM9 := Lib.hid hm9; have v1 := cells_of hm9.1 1 _ rfl; have v2 := cells_of hm9.1 2 _ rfl; have z1 : w9.frozen? ⟨gb, 1, none⟩ = false := (frozen_of hm9.1); have z2 : w9.frozen? ⟨gb, 2, none⟩ = false := (frozen_of hm9.1); clear hm9 hown9 hgrow9 hat9 hlt9))
          go_step3
          refine ⟨rfl, ⟨acc ++ [⟨q0, q1, q2, q3, q4, qr⟩], n', f, _, _, _, _, _, _, _, _, _, _, _, _, _, _, _, _, _, _, _, _, _, _, _, _, _, _, _, _, _, _, _, _, _, _, _, _, _, _, _, _, _, hlt2, by omega, HI5.out.2.2, HM9.out.2, rfl⟩, ?_⟩
          have m1 := HM9.out.2.cells.2.2.1
          have m2 := HS.out.cells.2.2.1
          rw [m1, m2]
          simp only [Int.toNat_natCast]
          omega
        · have hbn2 : (q0 != en) = true := by simpa using hbn
          have hno : loadF (f + 1) s k (endL n acc) acc = (acc, k) := by rw [HST.out, HEN.out, if_pos hbn]
          have hfin : loadS s n = (acc, k) := by rw [HR.out.2, ← HL.out, hno]
          have HFIN := Lib.hid hfin
          clear hno hfin hbn
          go_region_held3 (fun W' => W'.cell? ⟨bb, 0, none⟩ = some (.int .i64 q0) ∧ W'.cell? ⟨gb, 0, none⟩ = some (.int .i64 n) ∧ W'.cell? ⟨gb, 1, none⟩ = some (.slice la acc.length lc) ∧ W'.cell? ⟨gb, 2, none⟩ = some (.int .i64 (k : Int)))
            (first | with_reducible exact ⟨k0, l0, l1, l2⟩ | with_reducible exact ⟨(HK.out _ (Below.refl _ _).drew).1, (HK.out _ (Below.refl _ _).drew).2.2.2.2.2.2⟩ | (have hg := hb5; with_reducible exact ⟨(HK.out _ hb5).1, (HK.out _ hb5).2.2.2.2.2.2⟩))
            (first | (go_at_call 85; refine (HS4.out _ ?_).mono ?_; (first | with_reducible exact Below.refl _ _ | with_reducible exact (Below.refl _ _).drew); rintro _ w5 ⟨rfl, hb5⟩))
          have hw6 := below_trans H4.out.1 hb5
          have HW := Lib.hid hw6
          clear hb5 hw6 k0 k1 k2 k3 k4 k5 l0 l1 l2
          obtain ⟨c0, c1, c2, f1, f2, d0, d1, d2, e0, e1, e2⟩ := (HS.out.below HW.out).cells
          obtain ⟨W9, hW9, hx9, hD9⟩ := (HS.out.below HW.out).done HFIN.out
          have g0 := cells_of hx9 0 _ rfl
          have g1 := cells_of hx9 1 _ rfl
          have g2 := cells_of hx9 2 _ rfl
          have HD := Lib.hid hD9
          clear hx9 hD9
          go_wp2
          rw [← hW9]
          try simp only [Exit.jump]
          exact bodyPost_ret (v := .agg #[.int .i64 n, .slice la acc.length lc, .int .i64 (k : Int)]) (by simp [results, Tryz.results152, go_sem, g0, g1, g2]) rfl HD.out
    · have hno : loadF (f + 1) s k (endL n acc) acc = (acc, k) := by simp only [loadF]; rw [hx, if_pos hcd]
      have hfin : loadS s n = (acc, k) := by rw [HR.out.2, ← HL.out, hno]
      have HFIN := Lib.hid hfin
      clear hno hx hfin hst c0 c1 f1 f2 d0 d1 d2 e0 e1 e2
      go_wp2_with fail
      refine (HN.out _).mono ?_
      rintro _ w2 ⟨rfl, hb2⟩
      clear c2
      obtain ⟨c0, c1, c2, f1, f2, d0, d1, d2, e0, e1, e2⟩ := (HS.out.below hb2).cells
      obtain ⟨W9, hW9, hx9, hD9⟩ := (HS.out.below hb2).done HFIN.out
      have g0 := cells_of hx9 0 _ rfl
      have g1 := cells_of hx9 1 _ rfl
      have g2 := cells_of hx9 2 _ rfl
      have HD := Lib.hid hD9
      clear hb2 hx9 hD9
      go_wp2
      rw [← hW9]
      try simp only [Exit.jump]
      exact bodyPost_ret (v := .agg #[.int .i64 n, .slice la acc.length lc, .int .i64 (k : Int)]) (by simp [results, Tryz.results152, go_sem, g0, g1, g2]) rfl HD.out
end Go.Proofs.YtcpaaleogmiamaaGreatDoor
