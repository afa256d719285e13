/- The walk of flock.pointed. -/
import Derived.Test.YtdchjepahgecgaaGreatDoorMq16
import Derived.Test.YtdchjepahgecgaaGreatDoorMq17
import Derived.Test.YtdchjepahgecgaaGreatDoorMq20
namespace Go.Proofs.YtdchjepahgecgaaGreatDoor
open Go.RowKit

/-- Points with another one. -/
def pointedP (l : List (Int × Int)) (p : Int × Int) : List (Int × Int) := if hasPt l p.1 = true then l.set (ptAt l p.1) p else l.take (ptAt l p.1) ++ p :: l.drop (ptAt l p.1)

theorem hasPt_at {L : List (Int × Int)} (hr : PtUp L) {s : Int} (h : hasPt L s = true) : ∃ hk : ptAt L s < L.length, (L[ptAt L s]'hk).1 = s := by
  obtain ⟨h1, h2⟩ := up_split Prod.fst int_tr hr s
  have hh := hasK_of Prod.fst (s := s) int_irr int_tr (posK_le Prod.fst L s) hr h1 h2
  by_cases hk : ptAt L s < L.length
  · have := hh.1 hk
    unfold hasPt at h
    rw [this] at h
    exact ⟨hk, by simpa using h⟩
  · have hle : ptAt L s ≤ L.length := posK_le Prod.fst L s
    have := hh.2 (Nat.le_antisymm hle (Nat.le_of_not_lt hk))
    unfold hasPt at h
    rw [this] at h
    cases h

def PointedTo (w : World) (N : Nat) (pa : Option Addr) (n pc : Nat) (M : List (Int × Int)) (e : Ending) (w' : World) : Prop :=
  ∃ (pa' : Option Addr) (pc' : Nat), e = .returned (.slice pa' M.length pc') ∧ w'.ownsRow N 58 2 (.slice pa' M.length pc') M.length (ptCells M) ∧ Upd (fun b => some b = (Value.slice pa n pc).ownBlock) w w' ∧
    ∀ b, (Value.slice pa' M.length pc').ownBlock = some b → (Value.slice pa n pc).ownBlock = some b ∨ w.heap.size ≤ b

set_option maxRecDepth 100000 in
set_option maxHeartbeats 1000000 in
theorem pointed_any {w : World} {N : Nat} {pa : Option Addr} {pc : Nat} {l : List (Int × Int)} (h : w.ownsRow N 58 2 (.slice pa l.length pc) l.length (ptCells l)) (hN : N ≤ w.heap.size) (hr : PtUp l) (hL : l.length ≤ 900) (p o : Int) :
    Calls Tryz.prog 27 #[.slice pa l.length pc, .agg #[.int .i64 p, .int .i64 o]] w (PointedTo w N pa l.length pc (pointedP l (p, o))) := by
  have hb1 := below_alloc w (.cells #[.int .i64 p, .int .i64 o] 58)
  have hrd : PtsRd w (.slice pa l.length pc) l := PtsRd.of_owns h
  have hbs := BSPt_any (hrd.below hb1) hr (by omega) p
  have hbx := (heap_alloc_new w (.cells #[.int .i64 p, .int .i64 o] 58))
  have hown : ∀ W, Below (w.heap.size + 1) (w.alloc (.cells #[.int .i64 p, .int .i64 o] 58)) W → W.ownsRow N 58 2 (.slice pa l.length pc) l.length (ptCells l) ∧ Below w.heap.size w W ∧ W.cell? ⟨w.heap.size, 0, none⟩ = some (.int .i64 p) ∧ W.cell? ⟨w.heap.size, 1, none⟩ = some (.int .i64 o) := by
    intro W hb
    have h2 : Below w.heap.size w W := hb1.trans (hb.mono (by omega))
    have h3 := (hb.block w.heap.size (by omega)).trans hbx
    exact ⟨owns_upd h (Upd.of_below (F := fun _ => False) h2) (fun _ _ h => h), h2, cells_of h3 0 _ rfl, cells_of h3 1 _ rfl⟩
  have hblt : ∀ g, (Value.slice pa l.length pc).ownBlock = some g → N ≤ g ∧ g < w.heap.size := fun g hg => owns_lt h g hg
  obtain ⟨bh, hbh⟩ : ∃ bh, hasPt l p = bh := ⟨_, rfl⟩
  obtain ⟨k, hk0⟩ : ∃ k, ptAt l p = k := ⟨_, rfl⟩
  have hkl : k ≤ l.length := by rw [← hk0]; exact posK_le Prod.fst l p
  rw [hbh, hk0] at hbs
  have HBS := Lib.hid hbs
  have HO := Lib.hid hown
  have HL := Lib.hid hblt
  clear hbs hown hbx hb1 hrd
  cases bh with
  | true =>
    have hP : pointedP l (p, o) = l.set k (p, o) := by simp only [pointedP, hbh, if_true, hk0]
    obtain ⟨hk, hkp⟩ := hasPt_at hr hbh
    simp only [hk0] at hk hkp
    obtain ⟨g, rfl⟩ : ∃ g, pa = some ⟨g, 0, none⟩ := by
      rcases h.2 with ⟨h1, h2⟩ | ⟨g, cap, cur, h1, -⟩
      · omega
      · simp only [Value.slice.injEq] at h1; exact ⟨g, h1.1⟩
    have hglt := hblt g rfl
    have hcl := ptCells_get l k hk
    have hfin : ∀ W, Below (w.heap.size + 1) (w.alloc (.cells #[.int .i64 p, .int .i64 o] 58)) W → W.cell? ⟨g, k * 2, none⟩ = some (.int .i64 l[k].1) ∧ W.cell? ⟨g, k * 2 + 1, none⟩ = some (.int .i64 l[k].2) ∧ W.frozen? ⟨g, k * 2, none⟩ = false ∧ W.frozen? ⟨g, k * 2 + 1, none⟩ = false ∧
        ((W.setCell ⟨g, k * 2, none⟩ (.int .i64 p)).setCell ⟨g, k * 2 + 1, none⟩ (.int .i64 o)).ownsRow N 58 2 (.slice (some ⟨g, 0, none⟩) l.length pc) l.length (ptCells (l.set k (p, o))) ∧
        Upd (fun b => some b = (Value.slice (some ⟨g, 0, none⟩) l.length pc).ownBlock) w ((W.setCell ⟨g, k * 2, none⟩ (.int .i64 p)).setCell ⟨g, k * 2 + 1, none⟩ (.int .i64 o)) := by
      intro W hb
      obtain ⟨ho, hbw, -, -⟩ := HO.out W hb
      have e1 : (ptCells l).set (k * 2 + 0) (.int .i64 p) = ptCells (l.set k (p, l[k].2)) := fl_set ptEl_len l k hk 0 (by decide) (.int .i64 p) (p, l[k].2) rfl
      have hk' : k < (l.set k (p, l[k].2)).length := by simpa using hk
      have e2 : (ptCells (l.set k (p, l[k].2))).set (k * 2 + 1) (.int .i64 o) = ptCells ((l.set k (p, l[k].2)).set k (p, o)) := fl_set ptEl_len (l.set k (p, l[k].2)) k hk' 1 (by decide) (.int .i64 o) (p, o) (by simp [ptEl])
      have s1 := (ho.stored (k * 2 + 0) (.int .i64 p)).1
      rw [e1] at s1
      have s2 := (s1.stored (k * 2 + 1) (.int .i64 o)).1
      rw [e2, List.set_set] at s2
      refine ⟨?_, ?_, ho.frozenAt _, ho.frozenAt _, s2, ?_⟩
      · rw [ho.cellAt _ (by omega)]; exact hcl.1
      · rw [ho.cellAt _ (by omega)]; exact hcl.2
      · exact (Upd.of_below hbw).trans (((upd_set1 W g (k * 2) (.int .i64 p)).trans (upd_set1 _ g (k * 2 + 1) (.int .i64 o))).mono (fun b _ e => by rw [e]; rfl))
    have HF := Lib.hid hfin
    have i1 : (k : Int) < (l.length : Int) := by omega
    have i2 : (0 : Int) ≤ (k : Int) := by omega
    have hll : (l.set k (p, o)).length = l.length := by simp
    rw [hP]
    have HLL := Lib.hid hll
    clear hfin hP hbh h hcl hblt hkp hll hk0
    go_enter Tryz.func27, Tryz.ntmps27
    go_wp2_with (first | (go_at_call 61; refine HBS.out.mono ?_; rintro _ w2 ⟨rfl, hb2⟩; have hb2' : Below (w.heap.size + 1) (w.alloc (.cells #[.int .i64 p, .int .i64 o] 58)) w2 := hb2.mono (by simp); obtain ⟨-, -, x0, x1⟩ := HO.out w2 hb2'; obtain ⟨c0, c1, f0, f1, hz⟩ := HF.out w2 hb2'; have HZ := Lib.hid hz; clear hz hb2))
    exact bodyPost_ret (v := .slice (some ⟨g, 0, none⟩) l.length pc) (by simp [results, Tryz.results27, go_sem]) rfl ⟨_, _, by rw [HLL.out], by rw [HLL.out]; exact HZ.out.1, HZ.out.2, fun b e => .inl (by rw [HLL.out] at e; exact e)⟩
  | false =>
    have hP : pointedP l (p, o) = l.take k ++ (p, o) :: l.drop k := by simp only [pointedP, hbh, Bool.false_eq_true, if_false, hk0]
    rw [hP]
    have hins : ∀ W, Below (w.heap.size + 1) (w.alloc (.cells #[.int .i64 p, .int .i64 o] 58)) W → Calls Tryz.prog 64 #[.slice pa l.length pc, .int .i64 k, .slice (some ⟨W.heap.size, 0, none⟩) 1 1] (W.alloc (.cells #[.int .i64 p, .int .i64 o] 58)) (InsertedPt (W.alloc (.cells #[.int .i64 p, .int .i64 o] 58)) N pa l.length pc l k (p, o)) := by
      intro W hb
      obtain ⟨ho, hbw, -, -⟩ := HO.out W hb
      have hbz := hbw.size
      exact InsertPt_any (ho.alloc _) rfl (by rw [World.size_alloc]; omega) (by omega) (onePts l) (by simp [Value.oneCell']) (heap_alloc_new W _) (fun g hg e => by have := (hblt g hg).2; omega) hkl
    have hll : (l.take k ++ (p, o) :: l.drop k).length = l.length + 1 := by simp; omega
    have HLL := Lib.hid hll
    have HINS := Lib.hid hins
    clear hins hP hbh h hll hblt hk0
    go_enter Tryz.func27, Tryz.ntmps27
    go_wp2_with (first | (go_at_call 61; refine HBS.out.mono ?_; rintro _ w2 ⟨rfl, hb2⟩; have hb2' : Below (w.heap.size + 1) (w.alloc (.cells #[.int .i64 p, .int .i64 o] 58)) w2 := hb2.mono (by simp); obtain ⟨-, hbw, x0, x1⟩ := HO.out w2 hb2'; have HB2 := Lib.hid (And.intro hb2' hbw); clear hb2 hb2' hbw) | (go_at_call 64; refine (HINS.out w2 HB2.out.1).mono ?_; rintro _ w3 ⟨pa', pc', rfl, ho3, hu3, hn3⟩; have H3 := Lib.hid (And.intro ho3 (And.intro hu3 hn3)); clear ho3 hu3 hn3))
    obtain ⟨ho3, hu3, hn3⟩ := H3.out
    have hbz := HB2.out.2.size
    exact bodyPost_ret (v := .slice pa' (l.length + 1) pc') (by simp [results, Tryz.results27, go_sem]) rfl ⟨_, _, by rw [HLL.out], by rw [HLL.out]; exact ho3, ((Upd.of_below HB2.out.2).trans (upd_alloc _ w2 _)).trans hu3, fun b e => by
      rw [HLL.out] at e
      rcases hn3 b e with h | h
      · exact .inl h
      · right; rw [World.size_alloc] at h; omega⟩
end Go.Proofs.YtdchjepahgecgaaGreatDoor
