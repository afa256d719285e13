/- awake of layer 11. -/
/- The walk of layer 11's awake. -/
import Derived.Test.YtdchjepahgecgaaGreatDoorMq39
namespace Go.Proofs.YtdchjepahgecgaaGreatDoor
open Go.RowKit

def qA : Rq := ⟨3, 4, 3, 0, 0, 0, 0, 0, [103], [97], none, 0, 0⟩
def qB : Rq := ⟨3, 4, 5, 0, 0, 0, 0, 1, [103], [97], none, 0, 0⟩
abbrev xK : List UInt8 := [116, 103]
abbrev xV : List UInt8 := [108, 105, 49, 101, 105, 52, 101, 108, 49, 58, 97, 101, 101]
def fA : Fk := ⟨[103], 1, 4, [[97]], []⟩
theorem ak_dec : decideF [] 4 qA = (xK, xV) := by kernel_rfl
theorem ak_read : readP xK xV false = (⟨116, [103], 1, 4, [[97]], 0, 0, 0⟩, true) := by
  have e : xV = encTurn 1 4 [[97]] := by kernel_rfl
  rw [e]
  exact read_turn (by decide) (by decide) ⟨by decide, by decide⟩ ⟨by decide, by decide⟩
theorem ak_app : applyR [] ⟨0, xK, xV, false⟩ = [fA] := by
  rw [applyR, ak_read]; decide
theorem ak_ans : answerP [fA] xK xV false qA = ⟨3, 4, 0, 0, 1, [1, 2, 3]⟩ := by
  rw [answerP, ak_read]; decide
theorem ak_look : lookP [fA] qB = ⟨3, 4, 0, 0, 1, [1, 2, 3]⟩ := by decide
theorem ak_fold : (foldR [⟨0, xK, xV, false⟩, ⟨0, xK, xV, false⟩]).length = 1 := by
  have e : foldR [⟨0, xK, xV, false⟩, ⟨0, xK, xV, false⟩] = applyR (applyR [] ⟨0, xK, xV, false⟩) ⟨0, xK, xV, false⟩ := rfl
  rw [e, ak_app, applyR, ak_read]; decide
end Go.Proofs.YtdchjepahgecgaaGreatDoor
namespace Go.Proofs.YtdchjepahgecgaaGreatDoor
open Go.RowKit

abbrev akS : Value := .string ⟨#[116, 103]⟩
abbrev akT : Value := .string ⟨#[108, 105, 49, 101, 105, 52, 101, 108, 49, 58, 97, 101, 101]⟩
abbrev akQ (k g : Int) : Array Value := #[.int .i64 3, .int .i64 4, .int .i64 k, .int .i64 0, .int .i64 0, .int .i64 0, .int .i64 0, .int .i64 g, .string ⟨#[103]⟩, .string ⟨#[97]⟩, .slice none 0 0]
abbrev akX : Array Value := #[.int .i64 0, akS, akT, .bool false]
abbrev akR (pa : Option Addr) (pc : Nat) : Array Value := #[.int .i64 3, .int .i64 4, .int .i64 0, .int .i64 0, .int .i64 0, .int .i64 1, .slice pa 3 pc, .slice none 0 0]

theorem ak_Decide {W : World} (hE : Env W) : Calls Tryz.prog 14 #[.slice none 0 0, .int .i64 4, .agg (akQ 3 0)] W fun e w' => e = .returned (.agg akX) ∧ Below W.heap.size W w' := by
  have h := decide_any (FksRd.nil W) List.Pairwise.nil (by simp) qA (by decide) (by decide) 4 (by rw [the_no' rfl]; exact ⟨List.Pairwise.nil, by simp, by simp⟩) (by rw [the_no' rfl]; exact i64_zero) hE
  rw [ak_dec] at h
  exact h
theorem ak_Apply {W : World} (hE : Env W) : Calls Tryz.prog 10 #[.slice none 0 0, .agg akX] W fun e w' => ∃ a c, e = .returned (.slice a 1 c) ∧ OwnFk w' W.heap.size (.slice a 1 c) [fA] ∧ Below W.heap.size W w' := by
  have h := FApply_ok (FksRd.nil W) FksOk.nil ⟨0, xK, xV, false⟩ (by decide) (by decide) hE
  rw [ak_app] at h
  refine Calls.mono h ?_
  rintro e w' ⟨v, rfl, ho, hb⟩
  have hr := ho.rd
  obtain ⟨a, c, rfl, -⟩ := hr.cells
  exact ⟨a, c, rfl, ho, hb⟩
theorem ak_up : FkUp [fA] := List.pairwise_singleton _ _
theorem ak_Answer {W : World} {v : Value} (h : FksRd W v [fA]) (hE : Env W) : Calls Tryz.prog 15 #[v, .agg akX, .agg (akQ 3 0)] W fun e w' => ∃ pa pc, e = .returned (.agg (akR pa pc)) ∧ Below W.heap.size W w' := by
  have h := answer_any h ak_up (by simp) xK xV false 0 (by decide) (by decide) qA hE
  rw [ak_ans] at h
  refine Calls.mono h ?_
  rintro e w' ⟨pa, pc, rfl, -, hb⟩
  exact ⟨pa, pc, rfl, hb⟩
theorem ak_Look {W : World} {v : Value} (h : FksRd W v [fA]) : Calls Tryz.prog 20 #[v, .agg (akQ 5 1)] W fun e w' => ∃ pa pc, e = .returned (.agg (akR pa pc)) ∧ Below W.heap.size W w' := by
  have h := look_any h ak_up (by simp) qB
  rw [ak_look] at h
  refine Calls.mono h ?_
  rintro e w' ⟨pa, pc, rfl, -, hb⟩
  exact ⟨pa, pc, rfl, hb⟩
theorem ak_Fold {W : World} (hE : Env W) : Calls Tryz.prog 13 #[.slice (some ⟨W.heap.size, 0, none⟩) 2 2] (W.alloc (.cells #[.int .i64 0, akS, akT, .bool false, .int .i64 0, akS, akT, .bool false] 28)) fun e w' => ∃ a c, e = .returned (.slice a 1 c) ∧ Below W.heap.size W w' := by
  have hrd : RcsRd (W.alloc (.cells #[.int .i64 0, akS, akT, .bool false, .int .i64 0, akS, akT, .bool false] 28)) (.slice (some ⟨W.heap.size, 0, none⟩) 2 2) [⟨0, xK, xV, false⟩, ⟨0, xK, xV, false⟩] :=
    (Sl.of_owns (base := W.heap.size) (E := 28) ⟨by decide, .inr ⟨W.heap.size, 2, _, rfl, Nat.le_refl _, heap_alloc_new _ _, Nat.le_refl _, by unfold maxLen; omega, by decide, rfl⟩⟩).rd
  have h := FFold_any hrd (by intro x hx; simp only [List.mem_cons, List.not_mem_nil, or_false] at hx; rcases hx with rfl | rfl <;> exact ⟨by decide, by decide⟩) (hE.below (below_alloc _ _))
  refine Calls.mono h ?_
  rintro e w' ⟨v, rfl, ho, hb⟩
  obtain ⟨a, c, rfl, -⟩ := ho.rd.cells
  rw [ak_fold]
  exact ⟨a, c, rfl, below_trans (below_alloc _ _) hb⟩

theorem ak_q {W : World} {b : Nat} {k g : Int} (h : W.heap[b]? = some (.cells (akQ k g) 34 (0, 0))) : W.cell? ⟨b, 0, none⟩ = some (.int .i64 3) ∧ W.cell? ⟨b, 1, none⟩ = some (.int .i64 4) ∧ W.cell? ⟨b, 2, none⟩ = some (.int .i64 k) ∧ W.cell? ⟨b, 3, none⟩ = some (.int .i64 0) ∧
    W.cell? ⟨b, 4, none⟩ = some (.int .i64 0) ∧ W.cell? ⟨b, 5, none⟩ = some (.int .i64 0) ∧ W.cell? ⟨b, 6, none⟩ = some (.int .i64 0) ∧ W.cell? ⟨b, 7, none⟩ = some (.int .i64 g) ∧ W.cell? ⟨b, 8, none⟩ = some (.string ⟨#[103]⟩) ∧ W.cell? ⟨b, 9, none⟩ = some (.string ⟨#[97]⟩) ∧ W.cell? ⟨b, 10, none⟩ = some (.slice none 0 0) :=
  ⟨cells_of h 0 _ rfl, cells_of h 1 _ rfl, cells_of h 2 _ rfl, cells_of h 3 _ rfl, cells_of h 4 _ rfl, cells_of h 5 _ rfl, cells_of h 6 _ rfl, cells_of h 7 _ rfl, cells_of h 8 _ rfl, cells_of h 9 _ rfl, cells_of h 10 _ rfl⟩
theorem ak_x {W : World} {b : Nat} (h : W.heap[b]? = some (.cells akX 28 (0, 0))) : W.cell? ⟨b, 0, none⟩ = some (.int .i64 0) ∧ W.cell? ⟨b, 1, none⟩ = some akS ∧ W.cell? ⟨b, 2, none⟩ = some akT ∧ W.cell? ⟨b, 3, none⟩ = some (.bool false) :=
  ⟨cells_of h 0 _ rfl, cells_of h 1 _ rfl, cells_of h 2 _ rfl, cells_of h 3 _ rfl⟩
theorem ak_r {W : World} {b : Nat} {pa : Option Addr} {pc : Nat} (h : W.heap[b]? = some (.cells (akR pa pc) 39 (0, 0))) : W.cell? ⟨b, 0, none⟩ = some (.int .i64 3) ∧ W.cell? ⟨b, 1, none⟩ = some (.int .i64 4) ∧ W.cell? ⟨b, 2, none⟩ = some (.int .i64 0) ∧ W.cell? ⟨b, 5, none⟩ = some (.int .i64 1) ∧ W.cell? ⟨b, 6, none⟩ = some (.slice pa 3 pc) :=
  ⟨cells_of h 0 _ rfl, cells_of h 1 _ rfl, cells_of h 2 _ rfl, cells_of h 5 _ rfl, cells_of h 6 _ rfl⟩

set_option maxRecDepth 100000 in
set_option maxHeartbeats 2000000 in
theorem L11awake_any {w : World} (hE : Env w) : Calls Tryz.prog 8 #[] w fun e w' => e = .returned (.bool true) ∧ Below w.heap.size w w' := by
  obtain ⟨wa, hwa⟩ : ∃ wa, wa = w.alloc (.cells (akQ 3 0) 34) := ⟨_, rfl⟩
  have hb1 : Below w.heap.size w wa := by rw [hwa]; exact below_alloc _ _
  have hN : wa.heap[w.heap.size]? = some (.cells (akQ 3 0) 34 (0, 0)) := by rw [hwa]; exact heap_alloc_new w _
  have hsz : wa.heap.size = w.heap.size + 1 := by rw [hwa]; simp
  have hE1 := hE.below hb1
  have hq : ∀ W, Below wa.heap.size wa W → W.heap[w.heap.size]? = some (.cells (akQ 3 0) 34 (0, 0)) := fun W hb => (hb.block _ (by omega)).trans hN
  have HE0 := Lib.hid (fun W (hb : Below w.heap.size w W) => hE.below hb)
  have HEW := Lib.hid (fun W (hb : Below wa.heap.size wa W) => hE1.below hb)
  have HQ := Lib.hid hq
  have HB1 := Lib.hid (And.intro hb1 hsz)
  obtain ⟨z0, z1, z2, z3, z4, z5, z6, z7, z8, z9, z10⟩ := ak_q hN
  clear hN hb1 hsz hE hE1 hq
  go_enter Tryz.func8, Tryz.ntmps8
  go_upto_region 2 with fail
  rw [← hwa]
  clear hwa
  go_upto_region 3 with (first | (go_at_call 14; refine (ak_Decide (HEW.out _ (Below.refl _ _))).mono ?_; rintro _ w2 ⟨rfl, hb2⟩))
  obtain ⟨wp, hwp⟩ : ∃ wp, wp = w2.alloc (.cells akX 28) := ⟨_, rfl⟩
  obtain ⟨xb, hxb⟩ : ∃ xb, xb = w2.heap.size := ⟨_, rfl⟩
  have hs2 := hb2.size
  have hsp : wp.heap.size = xb + 1 := by rw [hwp, hxb]; simp
  have hbp : Below wa.heap.size wa wp := by rw [hwp]; exact hb2.alloc hs2 _
  have hX : wp.heap[xb]? = some (.cells akX 28 (0, 0)) := by rw [hwp, hxb]; exact heap_alloc_new _ _
  have hqx : ∀ W, Below wp.heap.size wp W → W.heap[w.heap.size]? = some (.cells (akQ 3 0) 34 (0, 0)) ∧ W.heap[xb]? = some (.cells akX 28 (0, 0)) ∧ Below wa.heap.size wa W := by
    intro W hb
    have h2 := hbp.trans (hb.mono (by omega))
    exact ⟨HQ.out W h2, (hb.block xb (by omega)).trans hX, h2⟩
  obtain ⟨x0, x1, x2, x3⟩ := ak_x hX
  have HP := Lib.hid hqx
  have HSP := Lib.hid (And.intro hsp (show w.heap.size < xb by have := HB1.out.2; omega))
  rw [← hwp, ← hxb]
  clear hwp hxb hs2 hsp hbp hX hqx hb2 HQ z0 z1 z2 z3 z4 z5 z6 z7 z8 z9 z10
  go_upto_region 4 with (first | (go_at_call 10; refine (ak_Apply (HEW.out _ (HP.out _ (Below.refl _ _)).2.2)).mono ?_; rintro _ w3 ⟨la, lc, rfl, hown, hb3⟩))
  have hN3 : wp.heap.size ≤ w3.heap.size := hb3.size
  obtain ⟨q3, x3', hb3'⟩ := HP.out _ hb3
  obtain ⟨z0, z1, z2, z3, z4, z5, z6, z7, z8, z9, z10⟩ := ak_q q3
  have hx3 := ak_x x3'
  obtain ⟨y0, y1, y2, y3⟩ := hx3
  have H3 := Lib.hid (And.intro hown (And.intro hb3 (And.intro hN3 hb3')))
  clear x0 x1 x2 x3 hown hb3 hN3 q3 x3' hb3'
  go_upto_region 5 with (first | (go_at_call 15; refine (ak_Answer H3.out.1.rd (HEW.out _ H3.out.2.2.2)).mono ?_; rintro _ w4 ⟨pa, pc, rfl, hb4⟩))
  obtain ⟨wr, hwr⟩ : ∃ wr, wr = w4.alloc (.cells (akR pa pc) 39) := ⟨_, rfl⟩
  obtain ⟨rb, hrb⟩ : ∃ rb, rb = w4.heap.size := ⟨_, rfl⟩
  have hsr : wr.heap.size = rb + 1 := by rw [hwr, hrb]; simp
  have hs4 := hb4.size
  have hb4r : Below w3.heap.size w3 wr := by rw [hwr]; exact hb4.alloc hs4 _
  have hR : wr.heap[rb]? = some (.cells (akR pa pc) 39 (0, 0)) := by rw [hwr, hrb]; exact heap_alloc_new _ _
  have hbr : Below wp.heap.size wp wr := H3.out.2.1.trans (hb4r.mono H3.out.2.2.1)
  have hlt : xb < rb := by have := H3.out.2.2.1; have := HSP.out.1; omega
  have hor : OwnFk wr wp.heap.size (.slice la 1 lc) [fA] := H3.out.1.below hb4r
  obtain ⟨qr, xr, hbr'⟩ := HP.out _ hbr
  rw [← hwr, ← hrb]
  obtain ⟨-, -, q2, -, -, -, -, q7, -, -, -⟩ := ak_q qr
  have hqf : wr.frozen? ⟨w.heap.size, 2, none⟩ = false := frozen_of qr
  obtain ⟨wz, hwz⟩ : ∃ wz, wz = (wr.setCell ⟨w.heap.size, 2, none⟩ (.int .i64 5)).setCell ⟨w.heap.size, 7, none⟩ (.int .i64 1) := ⟨_, rfl⟩
  have hqz : wz.heap[w.heap.size]? = some (.cells (akQ 5 1) 34 (0, 0)) := by rw [hwz]; exact setCell_same (o := 7) (setCell_same (o := 2) qr)
  have hne := HSP.out.2
  have hnx : xb ≠ w.heap.size := by omega
  have hnr : rb ≠ w.heap.size := by omega
  have hxz : wz.heap[xb]? = some (.cells akX 28 (0, 0)) := by rw [hwz, Below.heap_setCell _ _ _ _ hnx, Below.heap_setCell _ _ _ _ hnx]; exact xr
  have hrz : wz.heap[rb]? = some (.cells (akR pa pc) 39 (0, 0)) := by rw [hwz, Below.heap_setCell _ _ _ _ hnr, Below.heap_setCell _ _ _ _ hnr]; exact hR
  have huz : Upd (fun k => k = w.heap.size) wr wz := by rw [hwz]; exact (upd_set1 wr _ 2 _).trans (upd_set1 _ _ 7 _)
  have hoz : OwnFk wz wp.heap.size (.slice la 1 lc) [fA] := hor.low huz (fun k e => by have := HSP.out; omega)
  have hsz : wz.heap.size = wr.heap.size := by rw [hwz]; simp
  have hbz : Below w.heap.size w wz := (HB1.out.1.trans (hbr'.mono (by have := HB1.out.2; omega))).trans (huz.toBelow (by have := HSP.out; omega) (fun k e => by omega))
  have f2 : wr.frozen? ⟨w.heap.size, 2, none⟩ = false := frozen_of qr
  have f7 : (wr.setCell ⟨w.heap.size, 2, none⟩ (.int .i64 5)).frozen? ⟨w.heap.size, 7, none⟩ = false := frozen_of (setCell_same (o := 2) qr)
  have hEz : Env wz := HE0.out _ hbz
  obtain ⟨z0, z1, z2, z3, z4, z5, z6, z7, z8, z9, z10⟩ := ak_q hqz
  have HZ := Lib.hid (And.intro hqz (And.intro hxz (And.intro hrz (And.intro hoz (And.intro hbz hEz)))))
  have hzr : w.heap.size < wz.heap.size ∧ xb < rb ∧ rb < wz.heap.size := by omega
  have HL := Lib.hid hzr
  clear hqz hxz hrz huz hoz hsz hbz hEz hzr hwr hrb hsr hs4 hb4r hR hbr hlt hor qr xr hbr' hne hnx hnr hb4
  go_upto_region 7 with fail
  rw [← hwz]
  clear hwz hqf f2 f7 q2 q7
  go_upto_region 8 with (first | (go_at_call 20; refine (ak_Look HZ.out.2.2.2.1.rd).mono ?_; rintro _ w5 ⟨pb, pd, rfl, hb5⟩))
  obtain ⟨wv, hwv⟩ : ∃ wv, wv = w5.alloc (.cells (akR pb pd) 39) := ⟨_, rfl⟩
  obtain ⟨vb, hvb⟩ : ∃ vb, vb = w5.heap.size := ⟨_, rfl⟩
  have hs5 := hb5.size
  have hbv : Below wz.heap.size wz wv := by rw [hwv]; exact hb5.alloc hs5 _
  have hV : wv.heap[vb]? = some (.cells (akR pb pd) 39 (0, 0)) := by rw [hwv, hvb]; exact heap_alloc_new _ _
  have hxv := (hbv.block xb (by have := HL.out; omega)).trans HZ.out.2.1
  have hrv := (hbv.block rb (by have := HL.out; omega)).trans HZ.out.2.2.1
  have hbw : Below w.heap.size w wv := HZ.out.2.2.2.2.1.trans (hbv.mono (by have := HL.out; omega))
  have hvs : wv.heap.size = vb + 1 := by rw [hwv, hvb]; simp
  obtain ⟨x0, x1, x2, x3⟩ := ak_x hxv
  obtain ⟨r0, r1, r2, r5, r6⟩ := ak_r hrv
  obtain ⟨v0, v1, v2, v5, v6⟩ := ak_r hV
  have hfd := ak_Fold (HE0.out _ hbw)
  have HF := Lib.hid (And.intro hfd hbw)
  rw [← hwv, ← hvb]
  clear hwv hvb hs5 hbv hV hxv hrv hvs hfd hbw hb5 z0 z1 z2 z3 z4 z5 z6 z7 z8 z9 z10 y0 y1 y2 y3
  go_wp2_with (first | (go_at_call 13; refine HF.out.1.mono ?_; rintro _ w6 ⟨a6, c6, rfl, hb6⟩))
  go_ret
  exact ⟨rfl, HF.out.2.trans (hb6.mono (HF.out.2.size))⟩
end Go.Proofs.YtdchjepahgecgaaGreatDoor
