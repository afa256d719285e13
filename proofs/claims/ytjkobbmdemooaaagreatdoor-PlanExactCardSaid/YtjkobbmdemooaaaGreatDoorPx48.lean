/- awake of layer 12. -/
import Derived.Test.YtjkobbmdemooaaaGreatDoorPx45
import Derived.Test.YtjkobbmdemooaaaGreatDoorPx12
import Derived.Test.YtjkobbmdemooaaaGreatDoorPx32
import Derived.Test.YtjkobbmdemooaaaGreatDoorPx47
namespace Go.Proofs.YtjkobbmdemooaaaGreatDoor
open Go.RowKit

def awP : Pl := newP 3 2 2
def awQ : Pl × List Int × Int := applyP awP ⟨2, 2, 0, 0⟩

theorem aw_new : newOkB 3 2 2 = true := by decide
theorem aw_p : awP = ⟨3, 2, [⟨1, [1, 2], 0⟩, ⟨1, [2, 3], 0⟩], []⟩ := by decide
theorem aw_q : awQ = (⟨3, 2, [⟨2, [1], 0⟩, ⟨2, [3], 0⟩], []⟩, [0, 1], 0) := by decide
theorem aw_good : goodP awP = true := by decide
theorem aw_life : lifeP awP.lives 1 = 0 := by decide
theorem aw_ev : eventB ⟨1, 2, 0, 9⟩ = true := by decide
theorem aw_enc : encE ⟨1, 2, 0, 9⟩ = [108, 105, 49, 101, 105, 50, 101, 105, 48, 101, 105, 57, 101, 101] := by kernel_rfl
theorem aw_dec : decE [108, 105, 49, 101, 105, 50, 101, 105, 48, 101, 105, 57, 101, 101] = some ⟨1, 2, 0, 9⟩ := by
  rw [← aw_enc]
  exact (decE_iff _ _).2 ⟨aw_ev, rfl⟩

theorem ints_alloc (w : World) (l : List Int) (h : l.length ≤ 1000) : IntsRd (w.alloc (.cells (intCells l).toArray 3)) (.slice (some ⟨w.heap.size, 0, none⟩) l.length l.length) l :=
  IntsRd.of_owns (N := w.heap.size) (e := 3) ⟨by simp [intCells], .inr ⟨w.heap.size, l.length, _, rfl, Nat.le_refl _, heap_alloc_new _ _, Nat.le_refl _, by unfold maxLen; omega, by simp [intCells], by rw [List.take_of_length_le (by simp [intCells])]⟩⟩

/-- What stands in memory of a plan of two parts. -/
def Two (w : World) (pa : Option Addr) (e0 e1 : Int) (c0 c1 : List Int) : Prop :=
  ∃ b off ca0 cc0 ca1 cc1, pa = some ⟨b, off, none⟩ ∧ b < w.heap.size ∧ w.cell? ⟨b, off, none⟩ = some (.int .i64 e0) ∧ w.cell? ⟨b, off + 1, none⟩ = some (.slice ca0 c0.length cc0) ∧ IntsRd w (.slice ca0 c0.length cc0) c0 ∧
    w.cell? ⟨b, off + 3, none⟩ = some (.int .i64 e1) ∧ w.cell? ⟨b, off + 3 + 1, none⟩ = some (.slice ca1 c1.length cc1) ∧ IntsRd w (.slice ca1 c1.length cc1) c1

theorem Two.of {w : World} {pa : Option Addr} {pc : Nat} {e0 e1 l0 l1 : Int} {c0 c1 : List Int} (h : PartsRd w (.slice pa 2 pc) [⟨e0, c0, l0⟩, ⟨e1, c1, l1⟩]) : Two w pa e0 e1 c0 c1 := by
  obtain ⟨a, c, e, -, -, hC⟩ := h.cells
  simp only [Value.slice.injEq] at e
  obtain ⟨rfl, -, rfl⟩ := e
  obtain ⟨b, off, ca, cc, rfl, hb, x0, x1, x2, hr⟩ := hC 0 (by simp)
  obtain ⟨b', off', ca', cc', e', hb', y0, y1, y2, hr'⟩ := hC 1 (by simp)
  simp only [Option.some.injEq, Addr.mk.injEq, and_true] at e'
  obtain ⟨rfl, rfl⟩ := e'
  exact ⟨b, off, ca, cc, ca', cc', rfl, hb, by simpa using x0, by simpa using x1, by simpa using hr, by simpa using y0, by simpa using y1, by simpa using hr'⟩

theorem Two.below {w w' : World} {pa : Option Addr} {e0 e1 : Int} {c0 c1 : List Int} (h : Two w pa e0 e1 c0 c1) (hb : Below w.heap.size w w') : Two w' pa e0 e1 c0 c1 := by
  obtain ⟨b, off, ca0, cc0, ca1, cc1, rfl, hlt, x0, x1, r0, y0, y1, r1⟩ := h
  exact ⟨b, off, ca0, cc0, ca1, cc1, rfl, by have := hb.size; omega, below_some hb x0 hlt, below_some hb x1 hlt, r0.below hb, below_some hb y0 hlt, below_some hb y1 hlt, r1.below hb⟩

theorem aw_New (W : World) : Calls Tryz.prog 11 #[.agg #[.int .i64 3, .int .i64 0, .int .i64 2, .int .i64 2, .int .i64 0, .int .i64 0, .int .i64 0, .int .i64 0]] W fun e w' =>
    ∃ pa pc la lc, e = .returned (.tuple #[.agg #[.int .i64 3, .int .i64 2, .slice pa 2 pc, .slice la 0 lc], .int .i64 0]) ∧ PlanRd w' (.agg #[.int .i64 3, .int .i64 2, .slice pa 2 pc, .slice la 0 lc]) awP ∧ Two w' pa 1 1 [1, 2] [2, 3] ∧ Below W.heap.size W w' := by
  refine (New_yes 3 2 2 0 0 0 0 0 W aw_new).mono ?_
  rintro e w' ⟨v, rfl, h, hb⟩
  have h := h.rd
  have h0 : PlanRd w' v ⟨3, 2, [⟨1, [1, 2], 0⟩, ⟨1, [2, 3], 0⟩], []⟩ := by have := h; rw [show newP 3 2 2 = _ from aw_p] at this; exact this
  obtain ⟨pv, lv, rfl, hp, hl⟩ := h0
  obtain ⟨pa, pc, rfl, -⟩ := hp.cells
  obtain ⟨la, lc, rfl, -⟩ := hl.cells
  exact ⟨pa, pc, la, lc, rfl, h, Two.of hp, hb⟩

theorem aw_Apply {W : World} {v : Value} (h : PlanRd W v awP) : Calls Tryz.prog 9 #[v, .agg #[.int .i64 2, .int .i64 2, .int .i64 0, .int .i64 0]] W fun e w' =>
    ∃ pa pc la lc ta tc, e = .returned (.tuple #[.agg #[.int .i64 3, .int .i64 2, .slice pa 2 pc, .slice la 0 lc], .slice ta 2 tc, .int .i64 0]) ∧ Two w' pa 2 2 [1] [3] ∧ Below W.heap.size W w' := by
  refine (Apply_any h ⟨2, 2, 0, 0⟩).mono ?_
  rintro e w' ⟨v, tv, rfl, hp, ht, hb⟩
  have hq : applyP awP ⟨2, 2, 0, 0⟩ = (⟨3, 2, [⟨2, [1], 0⟩, ⟨2, [3], 0⟩], []⟩, [0, 1], 0) := aw_q
  rw [hq] at hp ht ⊢
  have hp' : PlanRd w' v ⟨3, 2, [⟨2, [1], 0⟩, ⟨2, [3], 0⟩], []⟩ := hp.rd
  have ht' : IntsRd w' tv [0, 1] := ht.rd
  clear hp ht
  have hp := hp'
  have ht := ht'
  clear hp' ht'
  obtain ⟨pv, lv, rfl, hp, hl⟩ := hp
  obtain ⟨pa, pc, rfl, -⟩ := hp.cells
  obtain ⟨la, lc, rfl, -⟩ := hl.cells
  obtain ⟨ta, tc, rfl, -⟩ := ht.cells
  exact ⟨pa, pc, la, lc, ta, tc, rfl, Two.of hp, hb⟩

abbrev awS : ByteArray := ⟨#[108, 105, 49, 101, 105, 50, 101, 105, 48, 101, 105, 57, 101, 101]⟩

theorem aw_Encode {W : World} (hE : Env W) : Calls Tryz.prog 21 #[.agg #[.int .i64 1, .int .i64 2, .int .i64 0, .int .i64 9]] W fun e w' => e = .returned (.tuple #[.string awS, .int .i64 0]) ∧ Below W.heap.size W w' := by
  refine (Encode_any ⟨1, 2, 0, 9⟩ hE).mono ?_
  rintro e w' ⟨rfl, hb⟩
  rw [if_pos aw_ev, aw_enc]
  exact ⟨rfl, hb⟩

theorem aw_Decode {W : World} (hE : Env W) : Calls Tryz.prog 23 #[.string awS] W fun e w' => e = .returned (.tuple #[.agg #[.int .i64 1, .int .i64 2, .int .i64 0, .int .i64 9], .int .i64 0]) ∧ Below W.heap.size W w' := by
  refine (Decode_any [108, 105, 49, 101, 105, 50, 101, 105, 48, 101, 105, 57, 101, 101] (by decide) hE).mono ?_
  rintro e w' ⟨rfl, hb⟩
  rw [aw_dec]
  exact ⟨rfl, hb⟩

theorem aw_Ints {W : World} {v : Value} {l : List Int} (h : IntsRd W v l) (hl : l.length ≤ 1000) : Calls Tryz.prog 14 #[v, .slice (some ⟨W.heap.size, 0, none⟩) l.length l.length] (W.alloc (.cells (intCells l).toArray 3)) fun e w' => e = .returned (.bool true) ∧ Below W.heap.size W w' := by
  refine (RInts_any (h.below (below_alloc _ _)) (ints_alloc W l hl)).mono ?_
  rintro e w' ⟨rfl, hb⟩
  exact ⟨by simp, below_trans (below_alloc _ _) hb⟩

set_option maxRecDepth 100000 in
set_option maxHeartbeats 1000000 in
theorem awake_any {w : World} (hE : Env w) : Calls Tryz.prog 7 #[] w fun e w' => e = .returned (.bool true) ∧ Below w.heap.size w w' := by
  have HE := Lib.hid (fun W (hb : Below w.heap.size w W) => hE.below hb)
  clear hE
  go_enter Tryz.func7, Tryz.ntmps7
  go_upto_region 2 with (first | (go_at_call 11; refine (aw_New _).mono ?_; rintro _ w1 ⟨pa, pc, la, lc, rfl, hp1, ht1, hb1⟩))
  obtain ⟨b, off, ca0, cc0, ca1, cc1, rfl, hblt, x0, x1, r0, y0, y1, r1⟩ := ht1
  simp only [List.length_cons, List.length_nil, Nat.zero_add, Nat.reduceAdd] at x1 r0 y1 r1
  have hF1 : ∀ W, Below (w1.heap.size + 1) (w1.alloc (.cells #[.int .i64 3, .int .i64 2, .slice (some ⟨b, off, none⟩) 2 pc, .slice la 0 lc] 25)) W → W.cell? ⟨w1.heap.size, 0, none⟩ = some (.int .i64 3) ∧ W.cell? ⟨w1.heap.size, 1, none⟩ = some (.int .i64 2) ∧ W.cell? ⟨w1.heap.size, 2, none⟩ = some (.slice (some ⟨b, off, none⟩) 2 pc) ∧
      W.cell? ⟨w1.heap.size, 3, none⟩ = some (.slice la 0 lc) ∧ W.cell? ⟨b, off + 3 + 1, none⟩ = some (.slice ca1 2 cc1) ∧ PlanRd W (.agg #[.int .i64 3, .int .i64 2, .slice (some ⟨b, off, none⟩) 2 pc, .slice la 0 lc]) awP ∧ IntsRd W (.slice ca1 2 cc1) [2, 3] := by
    intro W hb
    have hbk := (hb.block w1.heap.size (by omega)).trans (heap_alloc_new w1 (.cells #[.int .i64 3, .int .i64 2, .slice (some ⟨b, off, none⟩) 2 pc, .slice la 0 lc] 25))
    have hb2 : Below w1.heap.size w1 W := (below_alloc _ _).trans (hb.mono (by omega))
    exact ⟨cells_of hbk 0 _ rfl, cells_of hbk 1 _ rfl, cells_of hbk 2 _ rfl, cells_of hbk 3 _ rfl, below_some hb2 y1 hblt, hp1.below hb2, r1.below hb2⟩
  have HF1 := Lib.hid hF1
  have hs1 := hb1.size
  have hbP : Below w.heap.size w (w1.alloc (.cells #[.int .i64 3, .int .i64 2, .slice (some ⟨b, off, none⟩) 2 pc, .slice la 0 lc] 25)) := hb1.alloc hs1 _
  have hsP : (w1.alloc (.cells #[.int .i64 3, .int .i64 2, .slice (some ⟨b, off, none⟩) 2 pc, .slice la 0 lc] 25)).heap.size = w1.heap.size + 1 := by simp
  obtain ⟨p0, p1, p2, p3, -, hpr, -⟩ := hF1 _ (Below.refl _ _)
  have HPR := Lib.hid hpr
  clear hF1 hp1 x0 x1 r0 y0 y1 r1 hb1 hpr
  generalize w1.alloc (.cells #[.int .i64 3, .int .i64 2, .slice (some ⟨b, off, none⟩) 2 pc, .slice la 0 lc] 25) = wp at *
  have HBP := Lib.hid (And.intro hbP hsP)
  have hwp : w1.heap.size < wp.heap.size := by omega
  clear hbP hsP
  go_upto_region 3 with (first | (go_at_call 9; refine (aw_Apply HPR.out).mono ?_; rintro _ w2 ⟨pa', pc', la', lc', ta, tc, rfl, ht2, hb2⟩))
  obtain ⟨b', off', ca0, cc0, ca1', cc1', rfl, hblt', x0, x1, r0, y0, y1, r1⟩ := ht2
  simp only [List.length_cons, List.length_nil, Nat.zero_add, Nat.reduceAdd] at x1 r0 y1 r1
  have hs2 := hb2.size
  have hF2 : ∀ W, Below (w2.heap.size + 1) (w2.alloc (.cells #[.int .i64 3, .int .i64 2, .slice (some ⟨b', off', none⟩) 2 pc', .slice la' 0 lc'] 25)) W → (W.cell? ⟨w1.heap.size, 0, none⟩ = some (.int .i64 3) ∧ W.cell? ⟨w1.heap.size, 1, none⟩ = some (.int .i64 2) ∧ W.cell? ⟨w1.heap.size, 2, none⟩ = some (.slice (some ⟨b, off, none⟩) 2 pc) ∧
      W.cell? ⟨w1.heap.size, 3, none⟩ = some (.slice la 0 lc) ∧ W.cell? ⟨b, off + 3 + 1, none⟩ = some (.slice ca1 2 cc1) ∧ PlanRd W (.agg #[.int .i64 3, .int .i64 2, .slice (some ⟨b, off, none⟩) 2 pc, .slice la 0 lc]) awP ∧ IntsRd W (.slice ca1 2 cc1) [2, 3]) ∧
      W.cell? ⟨w2.heap.size, 2, none⟩ = some (.slice (some ⟨b', off', none⟩) 2 pc') ∧ W.cell? ⟨b', off' + 1, none⟩ = some (.slice ca0 1 cc0) ∧ W.cell? ⟨b', off' + 3, none⟩ = some (.int .i64 2) ∧ IntsRd W (.slice ca0 1 cc0) [1] ∧ Below w.heap.size w W := by
    intro W hb
    have hbk := (hb.block w2.heap.size (by omega)).trans (heap_alloc_new w2 (.cells #[.int .i64 3, .int .i64 2, .slice (some ⟨b', off', none⟩) 2 pc', .slice la' 0 lc'] 25))
    have hb3 : Below w2.heap.size w2 W := (below_alloc _ _).trans (hb.mono (by omega))
    have hb4 : Below wp.heap.size wp W := hb2.trans (hb3.mono hs2)
    have hsP := HBP.out.2
    exact ⟨HF1.out W (hb4.mono (by omega)), cells_of hbk 2 _ rfl, below_some hb3 x1 hblt', below_some hb3 y0 hblt', r0.below hb3, HBP.out.1.trans (hb4.mono (by omega))⟩
  have HF2 := Lib.hid hF2
  have hsQ : (w2.alloc (.cells #[.int .i64 3, .int .i64 2, .slice (some ⟨b', off', none⟩) 2 pc', .slice la' 0 lc'] 25)).heap.size = w2.heap.size + 1 := by simp
  clear hF2 x0 x1 r0 y0 y1 r1 hb2 p0 p1 p2 p3 HF1 HPR
  generalize w2.alloc (.cells #[.int .i64 3, .int .i64 2, .slice (some ⟨b', off', none⟩) 2 pc', .slice la' 0 lc'] 25) = wq at *
  have HSQ := Lib.hid hsQ
  clear hsQ
  go_upto_region 4 with (first | (go_at_call 21; refine (aw_Encode (HE.out _ (HF2.out wq (Below.refl _ _)).2.2.2.2.2)).mono ?_; rintro _ w3 ⟨rfl, hb3'⟩))
  have hb3 : Below (w2.heap.size + 1) wq w3 := hb3'.mono (by have := HSQ.out; omega)
  have hs3 := hb3'.size
  have HB3 := Lib.hid (And.intro hb3 hs3)
  have hrise : Rising awP.lives := by decide
  have hlen : awP.lives.length ≤ 1000 := by decide
  clear hb3 hb3'
  have hall : ∀ w4, Below w3.heap.size w3 w4 → (∀ o, (w4.alloc o).cell? ⟨w1.heap.size, 2, none⟩ = some (.slice (some ⟨b, off, none⟩) 2 pc)) ∧ (∀ o, (w4.alloc o).cell? ⟨b, off + 3 + 1, none⟩ = some (.slice ca1 2 cc1)) ∧
      Calls Tryz.prog 14 #[.slice ca1 2 cc1, .slice (some ⟨w4.heap.size + 1, 0, none⟩) 2 2] ((w4.alloc (.cells #[.int .i64 1, .int .i64 2, .int .i64 0, .int .i64 9] 27)).alloc (.cells #[.int .i64 2, .int .i64 3] 3)) fun e w5 =>
        e = .returned (.bool true) ∧ Below (w2.heap.size + 1) wq w5 ∧ w4.heap.size < w5.heap.size ∧ w5.heap[w4.heap.size]? = some (.cells #[.int .i64 1, .int .i64 2, .int .i64 0, .int .i64 9] 27 (0, 0)) := by
    intro w4 hb
    have hs4 := hb.size
    have hs2' := HSQ.out
    have hs3' := HB3.out.2
    have h1 : Below (w2.heap.size + 1) wq w4 := HB3.out.1.trans (hb.mono (by omega))
    have h2 : ∀ o, Below (w2.heap.size + 1) wq (w4.alloc o) := fun o => h1.alloc (by omega) o
    refine ⟨fun o => (HF2.out _ (h2 o)).1.2.2.1, fun o => (HF2.out _ (h2 o)).1.2.2.2.2.1, ?_⟩
    have hi := aw_Ints (HF2.out _ (h2 (.cells #[.int .i64 1, .int .i64 2, .int .i64 0, .int .i64 9] 27))).1.2.2.2.2.2.2 (by decide)
    rw [World.size_alloc] at hi
    refine Calls.mono hi ?_
    rintro e w5 ⟨rfl, hb5⟩
    have hs5 := hb5.size
    simp only [World.size_alloc] at hs5
    exact ⟨rfl, (h2 _).trans (hb5.mono (by omega)), by omega, (hb5.block _ (by simp)).trans (heap_alloc_new _ _)⟩
  have hi2 : ∀ w5, Below (w2.heap.size + 1) wq w5 → Calls Tryz.prog 14 #[.slice ca0 1 cc0, .slice (some ⟨w5.heap.size, 0, none⟩) 1 1] (w5.alloc (.cells #[.int .i64 1] 3)) fun e w6 => e = .returned (.bool true) ∧ Below w5.heap.size w5 w6 :=
    fun w5 hb => by have hi := aw_Ints (l := [1]) (HF2.out w5 hb).2.2.2.2.1 (by decide); exact hi
  have hgd : ∀ w6, Below (w2.heap.size + 1) wq w6 → Calls Tryz.prog 15 #[.agg #[.int .i64 3, .int .i64 2, .slice (some ⟨b, off, none⟩) 2 pc, .slice la 0 lc]] w6 fun e w7 => e = .returned (.bool true) ∧ Below w6.heap.size w6 w7 := by
    intro w6 hb
    have := Good_any (HF2.out w6 hb).1.2.2.2.2.2.1
    rw [aw_good] at this
    exact this
  have hlf : ∀ w6, Below (w2.heap.size + 1) wq w6 → Calls Tryz.prog 17 #[.agg #[.int .i64 3, .int .i64 2, .slice (some ⟨b, off, none⟩) 2 pc, .slice la 0 lc], .int .i64 1] w6 fun e w7 => e = .returned (.int .i64 0) ∧ Below w6.heap.size w6 w7 := by
    intro w6 hb
    have := Life_any (HF2.out w6 hb).1.2.2.2.2.2.1 hrise hlen 1
    rw [aw_life] at this
    exact this
  have hnext : ∀ W, Below (w2.heap.size + 1) wq W → W.cell? ⟨w1.heap.size, 0, none⟩ = some (.int .i64 3) ∧ W.cell? ⟨w1.heap.size, 1, none⟩ = some (.int .i64 2) ∧ W.cell? ⟨w1.heap.size, 2, none⟩ = some (.slice (some ⟨b, off, none⟩) 2 pc) ∧ W.cell? ⟨w1.heap.size, 3, none⟩ = some (.slice la 0 lc) ∧
      W.cell? ⟨w2.heap.size, 2, none⟩ = some (.slice (some ⟨b', off', none⟩) 2 pc') ∧ W.cell? ⟨b', off' + 1, none⟩ = some (.slice ca0 1 cc0) ∧ W.cell? ⟨b', off' + 3, none⟩ = some (.int .i64 2) ∧ w2.heap.size + 1 ≤ W.heap.size := by
    intro W hb
    obtain ⟨⟨a0, a1, a2, a3, -⟩, q2, q3, q4, -, -⟩ := HF2.out W hb
    exact ⟨a0, a1, a2, a3, q2, q3, q4, by have := hb.size; have := HSQ.out; omega⟩
  have hdec := aw_Decode (HE.out _ (HF2.out w3 HB3.out.1).2.2.2.2.2)
  have HALL := Lib.hid hall
  have HI2 := Lib.hid hi2
  have HGD := Lib.hid hgd
  have HLF := Lib.hid hlf
  have HNX := Lib.hid hnext
  have HDC := Lib.hid hdec
  have hfin : ∀ W, Below (w2.heap.size + 1) wq W → Below w.heap.size w W := fun W hb => (HF2.out W hb).2.2.2.2.2
  have HFN := Lib.hid hfin
  clear hall hi2 hgd hlf hnext hdec hfin hrise hlen
  go_wp2_with (first | (go_at_call 23; with_reducible refine HDC.out.mono ?_; rintro _ w4 ⟨rfl, hb4⟩; obtain ⟨hA2, hA4, hAI⟩ := HALL.out w4 hb4; have HAI := Lib.hid hAI; clear hAI) | (go_at_call 14; with_reducible refine HAI.out.mono ?_; rintro _ w5 ⟨rfl, hb5, hl5, hev⟩; obtain ⟨p0, p1, p2, p3, q2, q3, q4, hz5⟩ := HNX.out w5 hb5; have HEV := Lib.hid (And.intro hb5 (And.intro hl5 hev)); have hq2 := fun o => (HNX.out (w5.alloc o) (hb5.alloc hz5 o)).2.2.2.2.1; clear hev hb5) | (go_at_call 14; with_reducible refine (HI2.out w5 HEV.out.1).mono ?_; rintro _ w6 ⟨rfl, hb6⟩; have hb6' := HEV.out.1.trans (hb6.mono hz5); obtain ⟨p60, p61, p62, p63, q62, q63, q64, hz6⟩ := HNX.out w6 hb6'; have ev6 := cells_of ((hb6.block _ HEV.out.2.1).trans HEV.out.2.2) 3 _ rfl; have HB6 := Lib.hid hb6'; clear hb6 hb6') | (go_at_call 15; with_reducible refine (HGD.out w6 HB6.out).mono ?_; rintro _ w7 ⟨rfl, hb7⟩; have hb7' := HB6.out.trans (hb7.mono hz6); obtain ⟨p70, p71, p72, p73, q72, q73, q74, hz7⟩ := HNX.out w7 hb7'; have HB7 := Lib.hid hb7'; clear hb7 hb7') | (go_at_call 17; with_reducible refine (HLF.out w7 HB7.out).mono ?_; rintro _ w8 ⟨rfl, hb8⟩))
  go_ret
  exact ⟨rfl, HFN.out _ (HB7.out.trans (hb8.mono hz7))⟩
end Go.Proofs.YtjkobbmdemooaaaGreatDoor
