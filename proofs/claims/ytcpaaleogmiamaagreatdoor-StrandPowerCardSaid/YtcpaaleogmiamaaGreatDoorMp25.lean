/- The walks of crate.rec and crate.Decode. -/
import Derived.Test.YtcpaaleogmiamaaGreatDoorMp19
import Derived.Test.YtcpaaleogmiamaaGreatDoorMp24
namespace Go.Proofs.YtcpaaleogmiamaaGreatDoor
open Go.RowKit

theorem RdAt.upd {w w' : World} {p : Nat} {st : RS} {F : Nat → Prop} (h : RdAt w p st) (hu : Upd F w w') (hF : ¬ F p) : RdAt w' p st := (hu.block p h.lt hF).trans h
theorem RdAt.drew {w : World} {p : Nat} {st : RS} (h : RdAt w p st) : RdAt w.drew p st := h
/-- A block that is newer than w is written. -/
theorem Upd.fresh {F : Nat → Prop} {w W : World} (h : Upd F w W) {b o : Nat} (hb : w.heap.size ≤ b) (v : Value) : Upd F w (W.setCell ⟨b, o, none⟩ v) := by
  have hs := upd_set1 W b o v
  exact ⟨hs.os.trans h.os, hs.tape.trans h.tape, hs.output.trans h.output, Nat.le_trans h.size hs.size, fun k hk hn => (hs.block k (Nat.lt_of_lt_of_le hk h.size) (by omega)).trans (h.block k hk hn)⟩

/-- Where rec stands: the reader in block p, the record in block xb. -/
structure RecSt (w W : World) (p xb : Nat) (st : RS) (c0 c1 c2 c3 : Value) : Prop where
  rd : RdAt W p st
  blk : W.heap[xb]? = some (.cells #[c0, c1, c2, c3] 84 (0, 0))
  upd : Upd (fun k => k = p) w W
  new : w.heap.size ≤ xb
  lt : p < w.heap.size
section
variable {w W W' : World} {p xb : Nat} {st st' : RS} {c0 c1 c2 c3 : Value}
theorem RecSt.read (h : RecSt w W p xb st c0 c1 c2 c3) (hr : RdAt W' p st') (hu : Upd (fun k => k = p) W W') : RecSt w W' p xb st' c0 c1 c2 c3 :=
  ⟨hr, (hu.block _ (Array.getElem?_eq_some_iff.1 h.blk).1 (by have := h.new; have := h.lt; omega)).trans h.blk, h.upd.trans hu, h.new, h.lt⟩
theorem RecSt.cells (h : RecSt w W p xb st c0 c1 c2 c3) : W.cell? ⟨xb, 0, none⟩ = some c0 ∧ W.cell? ⟨xb, 1, none⟩ = some c1 ∧ W.cell? ⟨xb, 2, none⟩ = some c2 ∧ W.cell? ⟨xb, 3, none⟩ = some c3 ∧
    W.frozen? ⟨xb, 0, none⟩ = false ∧ W.frozen? ⟨xb, 1, none⟩ = false ∧ W.frozen? ⟨xb, 2, none⟩ = false ∧ W.frozen? ⟨xb, 3, none⟩ = false :=
  ⟨cells_of h.blk 0 _ rfl, cells_of h.blk 1 _ rfl, cells_of h.blk 2 _ rfl, cells_of h.blk 3 _ rfl, frozen_of h.blk, frozen_of h.blk, frozen_of h.blk, frozen_of h.blk⟩
theorem RecSt.set0 (h : RecSt w W p xb st c0 c1 c2 c3) (v : Value) : RecSt w (W.setCell ⟨xb, 0, none⟩ v) p xb st v c1 c2 c3 :=
  ⟨h.rd.upd (upd_set1 W xb 0 v) (by have := h.new; have := h.lt; omega), setCell_same (o := 0) (v := v) h.blk, h.upd.fresh h.new v, h.new, h.lt⟩
theorem RecSt.set1 (h : RecSt w W p xb st c0 c1 c2 c3) (v : Value) : RecSt w (W.setCell ⟨xb, 1, none⟩ v) p xb st c0 v c2 c3 :=
  ⟨h.rd.upd (upd_set1 W xb 1 v) (by have := h.new; have := h.lt; omega), setCell_same (o := 1) (v := v) h.blk, h.upd.fresh h.new v, h.new, h.lt⟩
theorem RecSt.set2 (h : RecSt w W p xb st c0 c1 c2 c3) (v : Value) : RecSt w (W.setCell ⟨xb, 2, none⟩ v) p xb st c0 c1 v c3 :=
  ⟨h.rd.upd (upd_set1 W xb 2 v) (by have := h.new; have := h.lt; omega), setCell_same (o := 2) (v := v) h.blk, h.upd.fresh h.new v, h.new, h.lt⟩
theorem RecSt.set3 (h : RecSt w W p xb st c0 c1 c2 c3) (v : Value) : RecSt w (W.setCell ⟨xb, 3, none⟩ v) p xb st c0 c1 c2 v :=
  ⟨h.rd.upd (upd_set1 W xb 3 v) (by have := h.new; have := h.lt; omega), setCell_same (o := 3) (v := v) h.blk, h.upd.fresh h.new v, h.new, h.lt⟩
theorem RecSt.drew (h : RecSt w W p xb st c0 c1 c2 c3) : RecSt w W.drew p xb st c0 c1 c2 c3 := ⟨h.rd, h.blk, h.upd.trans (upd_drew _ _), h.new, h.lt⟩
end
def RecTo (w : World) (p : Nat) (r : (Rec × Bool) × RS) (e : Ending) (w' : World) : Prop := e = .returned (.tuple #[r.1.1.v, .bool r.1.2]) ∧ RdAt w' p r.2 ∧ Upd (fun k => k = p) w w'

set_option maxRecDepth 100000 in
set_option maxHeartbeats 2000000 in
theorem Crrec_any {w0 w : World} {p : Nat} {st : RS} (hE : Env w0) (hb0 : Below w0.heap.size w0 w) (hp : w0.heap.size ≤ p) (h : RdAt w p st) (hf : fuel st ≤ 140737488355328) :
    Calls Tryz.prog 232 #[.pointer (some ⟨p, 0, none⟩)] w (RecTo w p (rdR st)) := by
  obtain ⟨st0, e0⟩ : ∃ s, rdS 108 st = s := ⟨_, rfl⟩
  obtain ⟨a1, st1, e1⟩ : ∃ a s, rdI st0 = (a, s) := ⟨_, _, rfl⟩
  obtain ⟨k1, st2, e2⟩ : ∃ a s, rdT 16 st1 = (a, s) := ⟨_, _, rfl⟩
  obtain ⟨v1, st3, e3⟩ : ∃ a s, rdT 64 st2 = (a, s) := ⟨_, _, rfl⟩
  obtain ⟨g1, st4, e4⟩ : ∃ a s, rdI st3 = (a, s) := ⟨_, _, rfl⟩
  have hrd : rdR st = ((⟨a1, bs k1, bs v1, decide (g1 = 1)⟩, decide (g1 = flagN (decide (g1 = 1)))), rdS 101 st4) := by simp [rdR, e0, e1, e2, e3, e4]
  have f0 : fuel st0 ≤ 140737488355328 := by have := rdS_le 108 st; rw [e0] at this; omega
  have f1 : fuel st1 ≤ 140737488355328 := by have := rdI_le st0; rw [e1] at this; simp only at this; omega
  have f2 : fuel st2 ≤ 140737488355328 := by have := rdT_le (most := 16) (by decide) st1; rw [e2] at this; simp only at this; omega
  have f3 : fuel st3 ≤ 140737488355328 := by have := rdT_le (most := 64) (by decide) st2; rw [e3] at this; simp only at this; omega
  rw [hrd]
  obtain ⟨wa, hwa⟩ : ∃ wa, wa = w.alloc (.cells #[.int .i64 0, .string ⟨#[]⟩, .string ⟨#[]⟩, .bool false] 84) := ⟨_, rfl⟩
  have hst : RecSt w wa p w.heap.size st (.int .i64 0) (.string ⟨#[]⟩) (.string ⟨#[]⟩) (.bool false) := by
    rw [hwa]
    exact ⟨h.below (below_alloc _ _), heap_alloc_new _ _, upd_alloc _ _ _, Nat.le_refl _, h.lt⟩
  have HST := Lib.hid hst
  have hE' : ∀ W, Upd (fun k => k = p) w W → Env W := fun W hu => hE.below (hb0.trans (hu.toBelow hb0.size (fun k e => by omega)))
  obtain ⟨xb, hxb⟩ : ∃ xb, w.heap.size = xb := ⟨_, rfl⟩
  rw [hxb] at HST
  have HE := Lib.hid hE'
  have HQ := Lib.hid (And.intro e0 (And.intro e1 (And.intro e2 (And.intro e3 e4))))
  have HF := Lib.hid (And.intro f0 (And.intro f1 (And.intro f2 f3)))
  obtain ⟨gb, hgb⟩ : ∃ gb, decide (g1 = 1) = gb := ⟨_, rfl⟩
  have hgb2 : (g1 == 1) = gb := by rw [← hgb]; rfl
  rw [hgb]
  obtain ⟨okb, hok⟩ : ∃ okb, decide (g1 = flagN gb) = okb := ⟨_, rfl⟩
  rw [hok]
  have HGB := Lib.hid (And.intro hgb2 hok)
  clear h hE hE' hb0 hp hst f0 f1 f2 f3 e0 e1 e2 e3 e4 hf hrd hgb hgb2 hok
  go_enter Tryz.func232, Tryz.ntmps232
  go_upto_region 1 with fail
  rw [← hwa]
  clear hwa
  go_wp2_with fail
  refine (BrOpen_any HST.out.rd).mono ?_
  rintro e w1 ⟨rfl, hR1, hu1⟩
  have H1 := Lib.hid (HST.out.read hR1 hu1)
  rw [HQ.out.1] at H1
  clear hR1 hu1 HST
  go_wp2_with fail
  refine (BrInt_any H1.out.rd HF.out.1 (HE.out _ H1.out.upd)).mono ?_
  rintro e w2 ⟨rfl, hR2, hu2⟩
  rw [HQ.out.2.1] at hR2 ⊢
  have H2 := Lib.hid (H1.out.read hR2 hu2)
  clear hR2 hu2 H1
  obtain ⟨y0, -, -, -, z0, -⟩ := H2.out.cells
  go_wp2_with fail
  have H3 := Lib.hid (H2.out.set0 (.int .i64 a1))
  obtain ⟨w3, hw3⟩ : ∃ w3, w3 = w2.setCell ⟨xb, 0, none⟩ (.int .i64 a1) := ⟨_, rfl⟩
  rw [← hw3] at H3 ⊢
  clear hw3 y0 z0 H2
  refine (BrText_any (by decide) H3.out.rd HF.out.2.1 (HE.out _ H3.out.upd)).mono ?_
  rintro e w4 ⟨rfl, hR4, hu4⟩
  rw [HQ.out.2.2.1] at hR4 ⊢
  have H4 := Lib.hid (H3.out.read hR4 hu4)
  clear hR4 hu4 H3
  obtain ⟨-, y0, -, -, -, z0, -⟩ := H4.out.cells
  go_wp2_with fail
  have H5 := Lib.hid (H4.out.set1 (.string (bs k1)))
  obtain ⟨w5, hw5⟩ : ∃ w5, w5 = w4.setCell ⟨xb, 1, none⟩ (.string (bs k1)) := ⟨_, rfl⟩
  rw [← hw5] at H5 ⊢
  clear hw5 y0 z0 H4
  refine (BrText_any (by decide) H5.out.rd HF.out.2.2.1 (HE.out _ H5.out.upd)).mono ?_
  rintro e w6 ⟨rfl, hR6, hu6⟩
  rw [HQ.out.2.2.2.1] at hR6 ⊢
  have H6 := Lib.hid (H5.out.read hR6 hu6)
  clear hR6 hu6 H5
  obtain ⟨-, -, y0, -, -, -, z0, -⟩ := H6.out.cells
  go_wp2_with fail
  have H7 := Lib.hid (H6.out.set2 (.string (bs v1)))
  obtain ⟨w7, hw7⟩ : ∃ w7, w7 = w6.setCell ⟨xb, 2, none⟩ (.string (bs v1)) := ⟨_, rfl⟩
  rw [← hw7] at H7 ⊢
  clear hw7 y0 z0 H6
  refine (BrInt_any H7.out.rd HF.out.2.2.2 (HE.out _ H7.out.upd)).mono ?_
  rintro e w8 ⟨rfl, hR8, hu8⟩
  rw [HQ.out.2.2.2.2] at hR8 ⊢
  have H8 := Lib.hid (H7.out.read hR8 hu8)
  clear hR8 hu8 H7
  go_wp2_with fail
  refine (BrClose_any H8.out.rd).mono ?_
  rintro e w9 ⟨rfl, hR9, hu9⟩
  have H9 := Lib.hid (H8.out.read hR9 hu9)
  clear hR9 hu9 H8
  obtain ⟨-, -, -, y0, -, -, -, z0⟩ := H9.out.cells
  go_upto_region 8 with fail
  have H10 := Lib.hid (H9.out.set3 (.bool gb))
  rw [HGB.out.1]
  obtain ⟨w10, hw10⟩ : ∃ w10, w10 = w9.setCell ⟨xb, 3, none⟩ (.bool gb) := ⟨_, rfl⟩
  rw [← hw10] at H10 ⊢
  obtain ⟨c0, c1, c2, c3, f0, f1, f2, f3⟩ := H10.out.cells
  obtain ⟨d0, d1, d2, d3, -⟩ := H10.out.drew.cells
  have H11 := Lib.hid ((((H10.out.set0 (.int .i64 a1)).set1 (.string (bs k1))).set2 (.string (bs v1))).set3 (.bool gb))
  obtain ⟨e0, e1, e2, e3, -⟩ := H11.out.drew.cells
  have HD := Lib.hid (And.intro (And.intro d0 (And.intro d1 (And.intro d2 d3))) (And.intro e0 (And.intro e1 (And.intro e2 e3))))
  clear hw10 y0 z0 H9 d0 d1 d2 d3 e0 e1 e2 e3
  go_region_held3 (fun W' => W'.cell? ⟨xb, 0, none⟩ = some (.int .i64 a1) ∧ W'.cell? ⟨xb, 1, none⟩ = some (.string (bs k1)) ∧ W'.cell? ⟨xb, 2, none⟩ = some (.string (bs v1)) ∧ W'.cell? ⟨xb, 3, none⟩ = some (.bool gb))
    (first | with_reducible exact HD.out.1 | with_reducible exact HD.out.2)
    (first | (go_at_call 181; refine (Crflag_any _ _).mono ?_; rintro e w71 ⟨rfl, rfl⟩))
  have hg : (g1 == flagN gb) = okb := by rw [← HGB.out.2]; rfl
  obtain ⟨z0, z1, z2, z3⟩ := HD.out.2
  rw [hg]
  have HZ := Lib.hid H11.out.drew
  obtain ⟨wz, hwz⟩ : ∃ wz, wz = ((((w10.setCell ⟨xb, 0, none⟩ (.int .i64 a1)).setCell ⟨xb, 1, none⟩ (.string (bs k1))).setCell ⟨xb, 2, none⟩ (.string (bs v1))).setCell ⟨xb, 3, none⟩ (.bool gb)).drew := ⟨_, rfl⟩
  rw [← hwz] at HZ z0 z1 z2 z3 ⊢
  clear hwz HD hg c0 c1 c2 c3 f0 f1 f2 f3 H10 H11
  go_wp2
  exact bodyPost_ret (v := .tuple #[.agg #[.int .i64 a1, .string (bs k1), .string (bs v1), .bool gb], .bool okb]) (by simp [results, Tryz.results232, go_sem, z0, z1, z2, z3]) rfl ⟨rfl, HZ.out.rd, HZ.out.upd⟩

/-! ### Decode -/
theorem und_RecsC : Tryz.prog.underlying 38 = some (.slice 84) := by kernel_rfl
theorem info_RecC : (Tryz.prog.info? 84).map (fun i => (i.zero, i.size, i.bytes)) = some (some (.agg #[.int .i64 0, .string ⟨#[]⟩, .string ⟨#[]⟩, .bool false]), 4, 48) := by kernel_rfl
def Batch.zero : Batch := ⟨0, 0, 0, 0, 0, []⟩
/-- What Decode leaves: the batch, its records in new memory. -/
def DecBTo (w : World) (o : Option Batch) (e : Ending) (w' : World) : Prop := ∃ rv, e = .returned (.tuple #[(o.getD Batch.zero).v rv, .int .i64 (if o.isSome = true then 0 else 3)]) ∧
  InS w' (fun k => w.heap.size ≤ k) (fun W => RcsRd W rv (o.getD Batch.zero).recs) ∧ Below w.heap.size w w'

def stI : Nat → RS → RS
  | 0, st => st
  | k + 1, st => (rdI (stI k st)).2
def aI (k : Nat) (st : RS) : Int := (rdI (stI k st)).1
theorem stI_le : ∀ (k : Nat) (st : RS), fuel (stI k st) ≤ fuel st
  | 0, _ => Nat.le_refl _
  | k + 1, st => Nat.le_trans (rdI_le (stI k st)) (stI_le k st)
theorem rd5_eq (st : RS) : rd5 st = ((aI 0 st, aI 1 st, aI 2 st, aI 3 st, aI 4 st), stI 5 st) := rfl
def arrB (st : RS) (k : Nat) (rv : Value) : Array Value := #[.int .i64 (if 0 < k then aI 0 st else 0), .int .i64 (if 1 < k then aI 1 st else 0), .int .i64 (if 2 < k then aI 2 st else 0), .int .i64 (if 3 < k then aI 3 st else 0), .int .i64 (if 4 < k then aI 4 st else 0), rv]
theorem arrB_set {w : World} {b : Nat} {st : RS} {k : Nat} {rv : Value} (hk : k < 5) (h : w.heap[b]? = some (.cells (arrB st k rv) 40 (0, 0))) : (w.setCell ⟨b, k, none⟩ (.int .i64 (aI k st))).heap[b]? = some (.cells (arrB st (k + 1) rv) 40 (0, 0)) := by
  match k, hk with
  | 0, _ => exact setCell_same (o := 0) (v := .int .i64 (aI 0 st)) h
  | 1, _ => exact setCell_same (o := 1) (v := .int .i64 (aI 1 st)) h
  | 2, _ => exact setCell_same (o := 2) (v := .int .i64 (aI 2 st)) h
  | 3, _ => exact setCell_same (o := 3) (v := .int .i64 (aI 3 st)) h
  | 4, _ => exact setCell_same (o := 4) (v := .int .i64 (aI 4 st)) h

theorem rcs_snoc (l : List Rec) (x : Rec) : recCells l ++ [.int .i64 x.off, .string x.key, .string x.val, .bool x.gone] = recCells (l ++ [x]) := by simp [recCells, Rec.cells]

theorem dec_wrong {w W : World} {bb : Nat} {x0 x1 x2 x3 x4 x5 : Value} (hbb : w.heap.size = bb) (hb : Below bb w W) (hx : W.heap[bb]? = some (.cells #[x0, x1, x2, x3, x4, x5] 40 (0, 0))) :
    ∃ W', W' = (((((W.setCell ⟨bb, 0, none⟩ (.int .i64 0)).setCell ⟨bb, 1, none⟩ (.int .i64 0)).setCell ⟨bb, 2, none⟩ (.int .i64 0)).setCell ⟨bb, 3, none⟩ (.int .i64 0)).setCell ⟨bb, 4, none⟩ (.int .i64 0)).setCell ⟨bb, 5, none⟩ (.slice none 0 0) ∧
      W'.heap[bb]? = some (.cells #[.int .i64 0, .int .i64 0, .int .i64 0, .int .i64 0, .int .i64 0, .slice none 0 0] 40 (0, 0)) ∧ DecBTo w none (.returned (.tuple #[.agg #[.int .i64 0, .int .i64 0, .int .i64 0, .int .i64 0, .int .i64 0, .slice none 0 0], .int .i64 3])) W' := by
  have hl := (Array.getElem?_eq_some_iff.1 hx).1
  refine ⟨_, rfl, setCell_same (o := 5) (v := .slice none 0 0) (setCell_same (o := 4) (v := .int .i64 0) (setCell_same (o := 3) (v := .int .i64 0) (setCell_same (o := 2) (v := .int .i64 0) (setCell_same (o := 1) (v := .int .i64 0) (setCell_same (o := 0) (v := .int .i64 0) hx))))), .slice none 0 0, rfl, fun _ _ _ _ => RcsRd.nil _, ?_⟩
  rw [hbb]
  have hu : Upd (fun k => k = bb) W ((((((W.setCell ⟨bb, 0, none⟩ (.int .i64 0)).setCell ⟨bb, 1, none⟩ (.int .i64 0)).setCell ⟨bb, 2, none⟩ (.int .i64 0)).setCell ⟨bb, 3, none⟩ (.int .i64 0)).setCell ⟨bb, 4, none⟩ (.int .i64 0)).setCell ⟨bb, 5, none⟩ (.slice none 0 0)) :=
    (((((upd_set1 W bb 0 _).trans (upd_set1 _ bb 1 _)).trans (upd_set1 _ bb 2 _)).trans (upd_set1 _ bb 3 _)).trans (upd_set1 _ bb 4 _)).trans (upd_set1 _ bb 5 _)
  exact hb.trans (hu.toBelow (by omega) (fun k e => by omega))
theorem dec_right {w W : World} {bb : Nat} {b : Batch} {rv : Value} (hbb : w.heap.size = bb) (hb : Below bb w W) (hx : W.heap[bb]? = some (.cells #[.int .i64 b.base, .int .i64 b.count, .int .i64 b.prod, .int .i64 b.seq, .int .i64 b.time, rv] 40 (0, 0))) (hown : W.ownsRow (bb + 2) 84 4 rv b.recs.length (recCells b.recs)) :
    ∃ W', W' = (((((W.setCell ⟨bb, 0, none⟩ (.int .i64 b.base)).setCell ⟨bb, 1, none⟩ (.int .i64 b.count)).setCell ⟨bb, 2, none⟩ (.int .i64 b.prod)).setCell ⟨bb, 3, none⟩ (.int .i64 b.seq)).setCell ⟨bb, 4, none⟩ (.int .i64 b.time)).setCell ⟨bb, 5, none⟩ rv ∧
      W'.heap[bb]? = some (.cells #[.int .i64 b.base, .int .i64 b.count, .int .i64 b.prod, .int .i64 b.seq, .int .i64 b.time, rv] 40 (0, 0)) ∧ DecBTo w (some b) (.returned (.tuple #[b.v rv, .int .i64 0])) W' := by
  have hl := (Array.getElem?_eq_some_iff.1 hx).1
  have hu : Upd (fun k => k = bb) W ((((((W.setCell ⟨bb, 0, none⟩ (.int .i64 b.base)).setCell ⟨bb, 1, none⟩ (.int .i64 b.count)).setCell ⟨bb, 2, none⟩ (.int .i64 b.prod)).setCell ⟨bb, 3, none⟩ (.int .i64 b.seq)).setCell ⟨bb, 4, none⟩ (.int .i64 b.time)).setCell ⟨bb, 5, none⟩ rv) :=
    (((((upd_set1 W bb 0 _).trans (upd_set1 _ bb 1 _)).trans (upd_set1 _ bb 2 _)).trans (upd_set1 _ bb 3 _)).trans (upd_set1 _ bb 4 _)).trans (upd_set1 _ bb 5 _)
  have hown' := owns_upd hown hu (fun g hg => by have := (owns_lt hown g hg).1; omega)
  refine ⟨_, rfl, setCell_same (o := 5) (v := rv) (setCell_same (o := 4) (v := .int .i64 b.time) (setCell_same (o := 3) (v := .int .i64 b.seq) (setCell_same (o := 2) (v := .int .i64 b.prod) (setCell_same (o := 1) (v := .int .i64 b.count) (setCell_same (o := 0) (v := .int .i64 b.base) hx))))), rv, rfl, ?_, ?_⟩
  · refine (Sl.of_owns hown').rd.inS (fun a n c e => ?_)
    rcases hown.2 with ⟨h1, -⟩ | ⟨g, cap, cur, h1, h2, -⟩
    · rw [h1] at e; cases e
    · rw [h1] at e
      simp only [Value.slice.injEq, Option.some.injEq] at e
      rw [← e.1]
      show w.heap.size ≤ g
      omega
  · rw [hbb]; exact hb.trans (hu.toBelow (by omega) (fun k e => by omega))

/-- A record more. -/
theorem dec_grown {w W W' : World} {bb xb g cap : Nat} {a0 a1 a2 a3 a4 rv : Value} {acc : List Rec} {xo : Int} {xk xv : ByteArray} {xg : Bool} {st : RS} {ob : Obj} (hb : Below bb w W) (hx : W.heap[bb]? = some (.cells #[a0, a1, a2, a3, a4, rv] 40 (0, 0)))
    (ho : W.ownsRow (bb + 2) 84 4 rv acc.length (recCells acc)) (hR : RdAt W (bb + 1) st) (hxb : bb + 2 ≤ xb) (hs : W.heap.size = xb + 1)
    (hown : W'.ownsRow (bb + 2) 84 4 (.slice (some ⟨g, 0, none⟩) (acc.length + 1) cap) (acc.length + 1) (recCells acc ++ [.int .i64 xo, .string xk, .string xv, .bool xg])) (hg : (W.alloc ob).grownBy W' rv.ownBlock) :
    W'.cell? ⟨bb, 5, none⟩ = some rv ∧ W'.frozen? ⟨bb, 5, none⟩ = false ∧ (W'.setCell ⟨bb, 5, none⟩ (.slice (some ⟨g, 0, none⟩) (acc.length + 1) cap)).heap[bb]? = some (.cells #[a0, a1, a2, a3, a4, .slice (some ⟨g, 0, none⟩) (acc.length + 1) cap] 40 (0, 0)) ∧
      (W'.setCell ⟨bb, 5, none⟩ (.slice (some ⟨g, 0, none⟩) (acc.length + 1) cap)).ownsRow (bb + 2) 84 4 (.slice (some ⟨g, 0, none⟩) (acc.length + 1) cap) (acc ++ [(⟨xo, xk, xv, xg⟩ : Rec)]).length (recCells (acc ++ [⟨xo, xk, xv, xg⟩])) ∧
      Below bb w (W'.setCell ⟨bb, 5, none⟩ (.slice (some ⟨g, 0, none⟩) (acc.length + 1) cap)) ∧ RdAt (W'.setCell ⟨bb, 5, none⟩ (.slice (some ⟨g, 0, none⟩) (acc.length + 1) cap)) (bb + 1) st := by
  have hu : Upd (fun k => some k = rv.ownBlock) W W' := (upd_alloc _ W ob).trans (upd_grown hg)
  have hr := owns_lt ho
  have hne : ∀ k, k < bb + 2 → ¬ some k = rv.ownBlock := fun k hk e => by have := (hr k e.symm).1; omega
  have hx' := (hu.block bb (by omega) (hne bb (by omega))).trans hx
  have hset := upd_set1 W' bb 5 (.slice (some ⟨g, 0, none⟩) (acc.length + 1) cap)
  have hsz := hu.size
  refine ⟨cells_of hx' 5 _ rfl, frozen_of hx', setCell_same (o := 5) (v := .slice (some ⟨g, 0, none⟩) (acc.length + 1) cap) hx', ?_, ?_, ?_⟩
  · rw [← rcs_snoc acc ⟨xo, xk, xv, xg⟩, List.length_append]
    exact owns_upd hown hset (fun k hk => by have := (owns_lt hown k hk).1; omega)
  · exact (hb.trans (hu.toBelow (by omega) (fun k e => by have := (hr k e.symm).1; omega))).trans (hset.toBelow (by omega) (fun k e => by omega))
  · exact (hR.upd hu (hne _ (by omega))).upd hset (by omega)

set_option maxRecDepth 100000 in
set_option maxHeartbeats 4000000 in
theorem CrDecode_any {w : World} (s : List UInt8) (hs : s.length ≤ 140737488355327) (hE : Env w) : Calls Tryz.prog 191 #[.string (bs s)] w (DecBTo w (decB s)) := by
  obtain ⟨st0, e0⟩ : ∃ st, rdS 108 (s, false) = st := ⟨_, rfl⟩
  have f0 : fuel st0 ≤ s.length + 1 := by have := rdS_le 108 (s, false); rw [e0] at this; simpa [fuel] using this
  obtain ⟨b0, hb0⟩ : ∃ b : List Rec → Batch, b = fun l => ⟨aI 0 st0, aI 1 st0, aI 2 st0, aI 3 st0, aI 4 st0, l⟩ := ⟨_, rfl⟩
  have hrb : rdB s = (rdRs (fuel (stI 5 st0)) (stI 5 st0) []).map (fun p => (b0 p.1, rdS 101 p.2)) := by unfold rdB; rw [e0, rd5_eq, hb0]
  obtain ⟨R, hR⟩ : ∃ R, rdRs (fuel (stI 5 st0)) (stI 5 st0) [] = R := ⟨_, rfl⟩
  rw [hR] at hrb
  have hdn : R = none → decB s = none := fun h => by unfold decB; rw [hrb, h]; rfl
  have hds : ∀ l st, R = some (l, st) → decB s = if rdD (rdS 101 st) = true ∧ goodB (b0 l) = true then some (b0 l) else none := fun l st h => by unfold decB; rw [hrb, h]; rfl
  obtain ⟨o, ho⟩ : ∃ o, decB s = o := ⟨_, rfl⟩
  rw [ho] at hdn hds ⊢
  obtain ⟨wa, hwa⟩ : ∃ wa, wa = w.alloc (.cells #[.int .i64 0, .int .i64 0, .int .i64 0, .int .i64 0, .int .i64 0, .slice none 0 0] 40) := ⟨_, rfl⟩
  obtain ⟨bb, hbb⟩ : ∃ bb, w.heap.size = bb := ⟨_, rfl⟩
  have hx : wa.heap[bb]? = some (.cells (arrB st0 0 (.slice none 0 0)) 40 (0, 0)) := by rw [hwa, ← hbb]; exact heap_alloc_new _ _
  have hb1 : Below bb w wa := by rw [hwa, ← hbb]; exact below_alloc _ _
  have hsz : wa.heap.size = bb + 1 := by rw [hwa, ← hbb]; simp
  have hEb : ∀ W, Below bb w W → Env W := fun W h => hE.below (by rw [hbb]; exact h)
  have brint : ∀ W p st, RdAt W p st → fuel st ≤ s.length + 1 → Below bb w W → Calls Tryz.prog 171 #[.pointer (some ⟨p, 0, none⟩)] W fun e w2 => e = .returned (.int .i64 (rdI st).1) ∧ RdAt w2 p (rdI st).2 ∧ Upd (fun k => k = p) W w2 :=
    fun W p st h hf hb => BrInt_any h (by omega) (hEb W hb)
  have brec : ∀ W p st, RdAt W p st → fuel st ≤ s.length + 1 → Below bb w W → bb ≤ p → Calls Tryz.prog 232 #[.pointer (some ⟨p, 0, none⟩)] W (RecTo W p (rdR st)) :=
    fun W p st h hf hb hp => Crrec_any hE (by rw [hbb]; exact hb) (by rw [hbb]; exact hp) h (by omega)
  have HBI := Lib.hid brint
  have HBR := Lib.hid brec
  have H0 := Lib.hid (And.intro e0 (And.intro hR (And.intro hdn hds)))
  have HF := Lib.hid f0
  have H1 := Lib.hid (And.intro hx (And.intro hb1 hsz))
  have HB0 := Lib.hid hb0
  obtain ⟨i1, ki, kz0, kz1, kz2⟩ := info_parts info_RecC
  have HBB := Lib.hid hbb
  clear e0 hR hdn hds f0 hx hb1 hsz hEb brint brec hE hrb ho hb0
  go_enter Tryz.func191, Tryz.ntmps191
  go_wp2
  rw [← hwa]
  clear hwa hbb
  refine wp_scope_goto 0 rfl ?_
  go_wp2_with fail
  refine (BNew_any s wa).mono ?_
  rintro e w1 ⟨rfl, hR1, hbr1⟩
  rw [H1.out.2.2] at hR1 ⊢
  go_wp2_with fail
  refine (BrOpen_any hR1).mono ?_
  rintro e w2 ⟨rfl, hR2, hu2⟩
  rw [H0.out.1] at hR2
  have hx2 : w2.heap[bb]? = some (.cells (arrB st0 0 (.slice none 0 0)) 40 (0, 0)) := by
    have hl := (Array.getElem?_eq_some_iff.1 H1.out.1).1
    have hl2 := hbr1.size
    exact (hu2.block _ (by omega) (by omega)).trans ((hbr1.block _ hl).trans H1.out.1)
  have hb2 : Below bb w w2 := by
    have hz := H1.out.2.2
    exact H1.out.2.1.trans ((hbr1.mono (by omega)).trans (hu2.toBelow (by have := hbr1.size; omega) (fun k e => by omega)))
  have hl2 := hR2.lt
  have H2 := Lib.hid (And.intro hx2 (And.intro hb2 hR2))
  clear hR1 hbr1 hR2 hu2 hx2 hb2
  go_upto_region 4 with fail
  obtain ⟨w3, hw3⟩ : ∃ w3, w3 = w2.alloc (.cells #[.pointer (some ⟨bb, 0, none⟩), .pointer (some ⟨bb, 1, none⟩), .pointer (some ⟨bb, 2, none⟩), .pointer (some ⟨bb, 3, none⟩), .pointer (some ⟨bb, 4, none⟩)] 233) := ⟨_, rfl⟩
  obtain ⟨pp, hpp⟩ : ∃ pp, w2.heap.size = pp := ⟨_, rfl⟩
  have hpx : w3.heap[pp]? = some (.cells #[.pointer (some ⟨bb, 0, none⟩), .pointer (some ⟨bb, 1, none⟩), .pointer (some ⟨bb, 2, none⟩), .pointer (some ⟨bb, 3, none⟩), .pointer (some ⟨bb, 4, none⟩)] 233 (0, 0)) := by rw [hw3, ← hpp]; exact heap_alloc_new _ _
  have h3 : Below bb w w3 ∧ w3.heap[bb]? = some (.cells (arrB st0 0 (.slice none 0 0)) 40 (0, 0)) ∧ RdAt w3 (bb + 1) st0 := by
    rw [hw3]
    exact ⟨H2.out.2.1.alloc (by omega) _, ((below_alloc w2 _).block _ (by omega)).trans H2.out.1, H2.out.2.2.below (below_alloc _ _)⟩
  have hppb : bb + 1 < pp := by omega
  rw [← hw3, hpp]
  have H3 := Lib.hid (And.intro hpx h3)
  clear hw3 hpp hpx h3 H2 hl2
  go_wp2
  go_loopg [6, 20] 5 (fun gk _ i wx => ∃ k : Nat, k ≤ 5 ∧ gk = 5 - k ∧ i = .int .i64 k ∧ Below bb w wx ∧ wx.heap[pp]? = some (.cells #[.pointer (some ⟨bb, 0, none⟩), .pointer (some ⟨bb, 1, none⟩), .pointer (some ⟨bb, 2, none⟩), .pointer (some ⟨bb, 3, none⟩), .pointer (some ⟨bb, 4, none⟩)] 233 (0, 0)) ∧
    wx.heap[bb]? = some (.cells (arrB st0 k (.slice none 0 0)) 40 (0, 0)) ∧ RdAt wx (bb + 1) (stI k st0))
  case atStart => exact ⟨0, by omega, rfl, rfl, H3.out.2.1, H3.out.1, H3.out.2.2.1, H3.out.2.2.2⟩
  case round =>
    obtain ⟨k, hk, rfl, rfl, hbel, hpx, hbx, hrd⟩ := hrel
    have hrl := hrd.lt
    have hpl := (Array.getElem?_eq_some_iff.1 hpx).1
    by_cases hlt : k < 5
    · have hp : wr.cell? ⟨pp, k, none⟩ = some (.pointer (some ⟨bb, k, none⟩)) := by
        match k, hlt with
        | 0, _ => exact cells_of hpx 0 _ rfl
        | 1, _ => exact cells_of hpx 1 _ rfl
        | 2, _ => exact cells_of hpx 2 _ rfl
        | 3, _ => exact cells_of hpx 3 _ rfl
        | 4, _ => exact cells_of hpx 4 _ rfl
      have hfk := stI_le k st0
      have hri := HBI.out wr (bb + 1) (stI k st0) hrd (Nat.le_trans hfk HF.out) hbel
      have HRI := Lib.hid hri
      have HW := Lib.hid (And.intro hbel (And.intro hpx hbx))
      have i2 : (k : Int) < 5 := by omega
      have i3 : (0 : Int) ≤ (k : Int) := by omega
      clear hbel hpx hbx hrd hri hfk
      go_wp2_with fail
      refine HRI.out.mono ?_
      rintro e w5 ⟨rfl, hR5, hu5⟩
      have hs5 := hu5.size
      have hx5 := (hu5.block bb (by omega) (by omega)).trans HW.out.2.2
      have hp5 := (hu5.block pp hpl (by omega)).trans HW.out.2.1
      have hb5 : Below bb w w5 := HW.out.1.trans (hu5.toBelow (by omega) (fun k e => by omega))
      have hc5 : ∃ v, w5.cell? ⟨bb, k, none⟩ = some v := by
        match k, hlt with
        | 0, _ => exact ⟨_, cells_of hx5 0 _ rfl⟩
        | 1, _ => exact ⟨_, cells_of hx5 1 _ rfl⟩
        | 2, _ => exact ⟨_, cells_of hx5 2 _ rfl⟩
        | 3, _ => exact ⟨_, cells_of hx5 3 _ rfl⟩
        | 4, _ => exact ⟨_, cells_of hx5 4 _ rfl⟩
      obtain ⟨v5, c5⟩ := hc5
      have g5 : w5.frozen? ⟨bb, k, none⟩ = false := frozen_of hx5
      have hset := upd_set1 w5 bb k (.int .i64 (rdI (stI k st0)).1)
      have hfin : Below bb w (w5.setCell ⟨bb, k, none⟩ (.int .i64 (rdI (stI k st0)).1)) ∧ (w5.setCell ⟨bb, k, none⟩ (.int .i64 (rdI (stI k st0)).1)).heap[pp]? = some (.cells #[.pointer (some ⟨bb, 0, none⟩), .pointer (some ⟨bb, 1, none⟩), .pointer (some ⟨bb, 2, none⟩), .pointer (some ⟨bb, 3, none⟩), .pointer (some ⟨bb, 4, none⟩)] 233 (0, 0)) ∧
          (w5.setCell ⟨bb, k, none⟩ (.int .i64 (rdI (stI k st0)).1)).heap[bb]? = some (.cells (arrB st0 (k + 1) (.slice none 0 0)) 40 (0, 0)) ∧ RdAt (w5.setCell ⟨bb, k, none⟩ (.int .i64 (rdI (stI k st0)).1)) (bb + 1) (stI (k + 1) st0) :=
        ⟨hb5.trans (hset.toBelow (by omega) (fun k e => by omega)), (hset.block pp (by omega) (by omega)).trans hp5, arrB_set hlt hx5, hR5.upd hset (by omega)⟩
      have HFIN := Lib.hid hfin
      clear hfin hset hb5 hp5 hx5 hR5 hu5 HW HRI
      go_wp2
      go_roundg (5 - (k + 1))
      case measure => omega
      case rel => exact ⟨k + 1, by omega, rfl, by go_num, HFIN.out⟩
    · have i2 : ¬ (k : Int) < 5 := by omega
      obtain rfl : k = 5 := by omega
      have hf5 := stI_le 5 st0
      have H5 := Lib.hid (And.intro hbel (And.intro hbx (And.intro hrd (Nat.le_trans hf5 HF.out))))
      obtain ⟨w6, hw6⟩ : ∃ w6, w6 = wr := ⟨_, rfl⟩
      rw [← hw6] at H5 ⊢
      clear hbel hpx hbx hrd hf5 hw6 hrl hpl hlt hk
      obtain ⟨st5, hst5⟩ : ∃ st, stI 5 st0 = st := ⟨_, rfl⟩
      rw [hst5] at H5 H0
      clear hst5
      have harr : ∀ rv, arrB st0 5 rv = #[.int .i64 (aI 0 st0), .int .i64 (aI 1 st0), .int .i64 (aI 2 st0), .int .i64 (aI 3 st0), .int .i64 (aI 4 st0), rv] := fun _ => rfl
      rw [harr] at H5
      generalize aI 0 st0 = a0 at *
      generalize aI 1 st0 = a1 at *
      generalize aI 2 st0 = a2 at *
      generalize aI 3 st0 = a3 at *
      generalize aI 4 st0 = a4 at *
      clear harr
      go_wp2
      go_loopg [] (fuel st5) (fun gk wx => ∃ (f : Nat) (st : RS) (acc : List Rec) (rv : Value), rdRs f st acc = R ∧ fuel st ≤ f ∧ gk = fuel st ∧ fuel st ≤ s.length + 1 ∧ acc.length ≤ 9 ∧ Below bb w wx ∧ wx.heap[bb]? = some (.cells #[.int .i64 a0, .int .i64 a1, .int .i64 a2, .int .i64 a3, .int .i64 a4, rv] 40 (0, 0)) ∧ wx.ownsRow (bb + 2) 84 4 rv acc.length (recCells acc) ∧ RdAt wx (bb + 1) st)
      case atStart => exact ⟨_, st5, [], .slice none 0 0, H0.out.2.1, Nat.le_refl _, rfl, H5.out.2.2.2, by simp, H5.out.1, H5.out.2.1, World.ownsRow_nil _ _ _ _, H5.out.2.2.1⟩
      case round =>
        obtain ⟨f, st, acc, rv, hrs, hf, rfl, hfs, hac, hbel, hbx, hown, hrd⟩ := hrel
        obtain ⟨ra, rc, rfl, -⟩ := (Sl.of_owns hown).shape
        have hrl := hrd.lt
        have hsz := hbel.size
        have hmo := BrMore_any hrd
        by_cases hm : rdM st = true
        · have hst2 := rdM_ok hm
          have hfl := rdR_lt st hst2
          obtain ⟨f', rfl⟩ : ∃ f', f = f' + 1 := ⟨f - 1, by have : 0 < fuel st := (by simp [fuel, hst2]); omega⟩
          rw [rdRs, if_pos hm] at hrs
          have hrc := HBR.out wr (bb + 1) st hrd hfs hbel (by omega)
          rw [hm] at hmo
          obtain ⟨⟨⟨xo, xk, xv, xg⟩, ok⟩, st', hxr⟩ : ∃ x s', rdR st = (x, s') := ⟨_, _, rfl⟩
          rw [hxr] at hrc hrs hfl
          simp only at hrs hfl
          have HRC := Lib.hid hrc
          have HMO := Lib.hid hmo
          have HR := Lib.hid (And.intro hbel (And.intro hbx (And.intro hown hrs)))
          clear hrc hmo hbel hbx hown hrd hrs hxr
          go_wp2_with (first | (go_at_call 231; refine HMO.out.mono ?_; rintro e w7 ⟨rfl, rfl⟩))
          refine HRC.out.mono ?_
          rintro e w7 ⟨rfl, hR7, hu7⟩
          simp only [Rec.v] at hR7 ⊢
          have hs7 := hu7.size
          have hx7 := (hu7.block bb (by omega) (by omega)).trans HR.out.2.1
          have hb7 : Below bb w w7 := HR.out.1.trans (hu7.toBelow (by omega) (fun k e => by omega))
          have ho7 := owns_upd HR.out.2.2.1 hu7 (fun g hg e => by have := (owns_lt HR.out.2.2.1 g hg).1; omega)
          obtain ⟨w8, hw8⟩ : ∃ w8, w8 = w7.alloc (.cells #[.int .i64 xo, .string xk, .string xv, .bool xg] 84) := ⟨_, rfl⟩
          obtain ⟨xb, hxb⟩ : ∃ xb, w7.heap.size = xb := ⟨_, rfl⟩
          have hxx : w8.heap[xb]? = some (.cells #[.int .i64 xo, .string xk, .string xv, .bool xg] 84 (0, 0)) := by rw [hw8, ← hxb]; exact heap_alloc_new _ _
          have hx8 : w8.heap[bb]? = some (.cells #[.int .i64 a0, .int .i64 a1, .int .i64 a2, .int .i64 a3, .int .i64 a4, .slice ra acc.length rc] 40 (0, 0)) := by rw [hw8]; exact ((below_alloc w7 _).block bb (by omega)).trans hx7
          have hb8 : Below bb w w8 := by rw [hw8]; exact hb7.alloc (by omega) _
          have ho8 : w8.ownsRow (bb + 2) 84 4 (.slice ra acc.length rc) acc.length (recCells acc) := by rw [hw8]; exact ho7.alloc _
          have hR8 : RdAt w8 (bb + 1) st' := by rw [hw8]; exact hR7.below (below_alloc _ _)
          have hs8 : w8.heap.size = xb + 1 := by rw [hw8, World.size_alloc, hxb]
          have HQ := Lib.hid (And.intro hb8 hx8)
          have HQ2 := Lib.hid (And.intro ho8 (And.intro hR8 (And.intro hxx hs8)))
          have HXB := Lib.hid (show bb + 2 ≤ xb by omega)
          have c0 := cells_of hx8 0 _ rfl
          have c1 := cells_of hx8 1 _ rfl
          have c2 := cells_of hx8 2 _ rfl
          have c3 := cells_of hx8 3 _ rfl
          have c4 := cells_of hx8 4 _ rfl
          have c5 := cells_of hx8 5 _ rfl
          have z0 : w8.frozen? ⟨bb, 0, none⟩ = false := frozen_of hx8
          have z1 : w8.frozen? ⟨bb, 1, none⟩ = false := frozen_of hx8
          have z2 : w8.frozen? ⟨bb, 2, none⟩ = false := frozen_of hx8
          have z3 : w8.frozen? ⟨bb, 3, none⟩ = false := frozen_of hx8
          have z4 : w8.frozen? ⟨bb, 4, none⟩ = false := frozen_of hx8
          have z5 : w8.frozen? ⟨bb, 5, none⟩ = false := frozen_of hx8
          have r0 := cells_of hxx 0 _ rfl
          have r1 := cells_of hxx 1 _ rfl
          have r2 := cells_of hxx 2 _ rfl
          have r3 := cells_of hxx 3 _ rfl
          clear hR7 hu7 hx7 hb7 ho7 hxx hx8 hb8 ho8 hR8 hs8 hs7
          go_upto_region 10 with fail
          rw [← hw8]
          clear hw8
          cases ok with
          | false =>
            have hRn : R = none := by have := HR.out.2.2.2; rw [if_neg (by simp)] at this; exact this.symm
            have hon := H0.out.2.2.1 hRn
            have HON := Lib.hid hon
            clear hRn hon
            go_wp2
            apply wp_goto
            repeat (first | simp only [Exit.inBlock, Exit.then, jump_goto] | go_big_open)
            obtain ⟨W9, hW9, hx9, hD9⟩ := dec_wrong HBB.out HQ.out.1 HQ.out.2
            have g0 := cells_of hx9 0 _ rfl
            have g1 := cells_of hx9 1 _ rfl
            have g2 := cells_of hx9 2 _ rfl
            have g3 := cells_of hx9 3 _ rfl
            have g4 := cells_of hx9 4 _ rfl
            have g5 := cells_of hx9 5 _ rfl
            have HW2 := Lib.hid hD9
            clear hx9 hD9
            go_wp2
            rw [← hW9, Exit.noGoto_ret]
            exact bodyPost_ret (v := .tuple #[.agg #[.int .i64 0, .int .i64 0, .int .i64 0, .int .i64 0, .int .i64 0, .slice none 0 0], .int .i64 3]) (by simp [results, Tryz.results191, go_sem, g0, g1, g2, g3, g4, g5]) rfl (by rw [HON.out]; exact HW2.out)
          | true =>
            by_cases h8 : acc.length ≤ 8
            · have h8' : ¬ (8 : Int) < (acc.length : Int) := by omega
              have hrs := HR.out.2.2.2
              rw [if_pos ⟨rfl, h8⟩] at hrs
              have HRS := Lib.hid hrs
              clear hrs HR
              go_wp2_with (first
                | (at_builtin; refine wpList_append_lies _ rfl _ _ 38 rfl (bb + 2) 84 i1 _ 4 48 und_RecsC ki kz0 kz1 kz2 rfl (by decide) (.slice ra acc.length rc) acc.length (recCells acc) rfl (HQ2.out.1.alloc _) ⟨w8.heap.size, 0, none⟩ 1 1 [.int .i64 xo, .string xk, .string xv, .bool xg] rfl rfl (World.news_of_block (cs := #[.int .i64 xo, .string xk, .string xv, .bool xg]) (t := 84) (fr := (0, 0)) (heap_alloc_new w8 _)) (by simp [Value.oneCell']) (by decide) ?_ ?_ ?_ _ rfl ?_; (unfold maxLen; omega); omega; (have := HQ2.out.2.2.2; have := HXB.out; simp only [World.size_alloc]; omega); intro g9 gcap9 w9 hown9 hgrow9 hat9 hlt9; have hf9 := dec_grown HQ.out.1 HQ.out.2 HQ2.out.1 HQ2.out.2.1 HXB.out HQ2.out.2.2.2 hown9 hgrow9; have HG := Lib.hid hf9; obtain ⟨n5, nz5, -⟩ := hf9; clear hown9 hgrow9 hat9 hlt9))
              go_roundg (fuel st')
              case measure => exact hfl
              case rel =>
                exact ⟨f', st', acc ++ [⟨xo, xk, xv, xg⟩], _, HRS.out, by omega, rfl, by omega, by rw [List.length_append]; simp only [List.length_cons, List.length_nil]; omega, HG.out.2.2.2.2.1, HG.out.2.2.1, HG.out.2.2.2.1, HG.out.2.2.2.2.2⟩
            · have h8' : (8 : Int) < (acc.length : Int) := by omega
              have hRn : R = none := by have := HR.out.2.2.2; rw [if_neg (fun h => h8 h.2)] at this; exact this.symm
              have hon := H0.out.2.2.1 hRn
              have HON := Lib.hid hon
              clear hRn hon
              go_wp2
              apply wp_goto
              repeat (first | simp only [Exit.inBlock, Exit.then, jump_goto] | go_big_open)
              obtain ⟨W9, hW9, hx9, hD9⟩ := dec_wrong HBB.out HQ.out.1 HQ.out.2
              have g0 := cells_of hx9 0 _ rfl
              have g1 := cells_of hx9 1 _ rfl
              have g2 := cells_of hx9 2 _ rfl
              have g3 := cells_of hx9 3 _ rfl
              have g4 := cells_of hx9 4 _ rfl
              have g5 := cells_of hx9 5 _ rfl
              have HW2 := Lib.hid hD9
              clear hx9 hD9
              go_wp2
              rw [← hW9, Exit.noGoto_ret]
              exact bodyPost_ret (v := .tuple #[.agg #[.int .i64 0, .int .i64 0, .int .i64 0, .int .i64 0, .int .i64 0, .slice none 0 0], .int .i64 3]) (by simp [results, Tryz.results191, go_sem, g0, g1, g2, g3, g4, g5]) rfl (by rw [HON.out]; exact HW2.out)
        · have hm : rdM st = false := by simpa using hm
          rw [hm] at hmo
          have hrs2 : R = some (acc, st) := by
            rw [← hrs]
            cases f with
            | zero => rfl
            | succ f => rw [rdRs, if_neg (by rw [hm]; decide)]
          have hon := H0.out.2.2.2 acc st hrs2
          rw [HB0.out] at hon
          have hcl := BrClose_any hrd
          have HMO := Lib.hid hmo
          have HCL := Lib.hid hcl
          have HR := Lib.hid (And.intro hbel (And.intro hbx hown))
          clear hmo hcl hbel hbx hown hrd hrs hrs2
          go_wp2_with (first | (go_at_call 231; refine HMO.out.mono ?_; rintro e w7 ⟨rfl, rfl⟩))
          refine HCL.out.mono ?_
          rintro e w7 ⟨rfl, hR7, hu7⟩
          have hs7 := hu7.size
          have hx7 := (hu7.block bb (by omega) (by omega)).trans HR.out.2.1
          have hb7 : Below bb w w7 := HR.out.1.trans (hu7.toBelow (by omega) (fun k e => by omega))
          have ho7 := owns_upd HR.out.2.2 hu7 (fun g hg e => by have := (owns_lt HR.out.2.2 g hg).1; omega)
          have hdo := BrDone_any hR7
          have hgo := CrGood_any ⟨a0, a1, a2, a3, a4, acc⟩ (.slice ra acc.length rc) w7 (Sl.of_owns ho7).rd
          simp only [Batch.v] at hgo
          have HQ := Lib.hid (And.intro hb7 hx7)
          have HO7 := Lib.hid ho7
          have HGO := Lib.hid hgo
          obtain ⟨dn, hdn⟩ : ∃ dn, rdD (rdS 101 st) = dn := ⟨_, rfl⟩
          rw [hdn] at hdo hon
          obtain ⟨gd, hgd⟩ : ∃ gd, goodB ⟨a0, a1, a2, a3, a4, acc⟩ = gd := ⟨_, rfl⟩
          rw [hgd] at HGO hon
          have c0 := cells_of hx7 0 _ rfl
          have c1 := cells_of hx7 1 _ rfl
          have c2 := cells_of hx7 2 _ rfl
          have c3 := cells_of hx7 3 _ rfl
          have c4 := cells_of hx7 4 _ rfl
          have c5 := cells_of hx7 5 _ rfl
          have z0 : w7.frozen? ⟨bb, 0, none⟩ = false := frozen_of hx7
          have z1 : w7.frozen? ⟨bb, 1, none⟩ = false := frozen_of hx7
          have z2 : w7.frozen? ⟨bb, 2, none⟩ = false := frozen_of hx7
          have z3 : w7.frozen? ⟨bb, 3, none⟩ = false := frozen_of hx7
          have z4 : w7.frozen? ⟨bb, 4, none⟩ = false := frozen_of hx7
          have z5 : w7.frozen? ⟨bb, 5, none⟩ = false := frozen_of hx7
          clear hR7 hu7 hx7 hb7 ho7 hgo hdn hgd
          cases dn with
          | false =>
            have hon2 : o = none := by rw [hon, if_neg (by simp)]
            have HON := Lib.hid hon2
            simp only [Bool.false_eq_true, if_false] at hdo
            have HDO := Lib.hid hdo
            clear hon hon2 hdo
            go_wp2_with (first | (go_at_call 173; refine HDO.out.mono ?_; rintro e w8 ⟨rfl, rfl⟩))
            obtain ⟨W9, hW9, hx9, hD9⟩ := dec_wrong HBB.out HQ.out.1 HQ.out.2
            have g0 := cells_of hx9 0 _ rfl
            have g1 := cells_of hx9 1 _ rfl
            have g2 := cells_of hx9 2 _ rfl
            have g3 := cells_of hx9 3 _ rfl
            have g4 := cells_of hx9 4 _ rfl
            have g5 := cells_of hx9 5 _ rfl
            have HW2 := Lib.hid hD9
            clear hx9 hD9
            refine wp_label ?_
            go_wp2
            rw [← hW9]
            first | rw [Exit.noGoto_ret] | rw [jump_ret] | skip
            exact bodyPost_ret (v := .tuple #[.agg #[.int .i64 0, .int .i64 0, .int .i64 0, .int .i64 0, .int .i64 0, .slice none 0 0], .int .i64 3]) (by simp [results, Tryz.results191, go_sem, g0, g1, g2, g3, g4, g5]) rfl (by rw [HON.out]; exact HW2.out)
          | true =>
            simp only [if_true] at hdo
            have HDO := Lib.hid hdo
            cases gd with
            | false =>
              have hon2 : o = none := by rw [hon, if_neg (by simp)]
              have HON := Lib.hid hon2
              clear hon hon2 hdo
              go_wp2_with (first | (go_at_call 173; refine HDO.out.mono ?_; rintro e w8 ⟨rfl, rfl⟩) | (go_at_call 87; refine HGO.out.mono ?_; rintro e w9 ⟨rfl, hb9⟩))
              have HQ9 := Lib.hid (And.intro (HQ.out.1.trans (hb9.mono (by omega))) ((hb9.block bb (Array.getElem?_eq_some_iff.1 HQ.out.2).1).trans HQ.out.2))
              obtain ⟨W9, hW9, hx9, hD9⟩ := dec_wrong HBB.out HQ9.out.1 HQ9.out.2
              have g0 := cells_of hx9 0 _ rfl
              have g1 := cells_of hx9 1 _ rfl
              have g2 := cells_of hx9 2 _ rfl
              have g3 := cells_of hx9 3 _ rfl
              have g4 := cells_of hx9 4 _ rfl
              have g5 := cells_of hx9 5 _ rfl
              have HW2 := Lib.hid hD9
              have hx10 := HQ9.out.2
              have d0 := cells_of hx10 0 _ rfl
              have d1 := cells_of hx10 1 _ rfl
              have d2 := cells_of hx10 2 _ rfl
              have d3 := cells_of hx10 3 _ rfl
              have d4 := cells_of hx10 4 _ rfl
              have d5 := cells_of hx10 5 _ rfl
              have q0 : w9.frozen? ⟨bb, 0, none⟩ = false := frozen_of hx10
              have q1 : w9.frozen? ⟨bb, 1, none⟩ = false := frozen_of hx10
              have q2 : w9.frozen? ⟨bb, 2, none⟩ = false := frozen_of hx10
              have q3 : w9.frozen? ⟨bb, 3, none⟩ = false := frozen_of hx10
              have q4 : w9.frozen? ⟨bb, 4, none⟩ = false := frozen_of hx10
              have q5 : w9.frozen? ⟨bb, 5, none⟩ = false := frozen_of hx10
              clear hx9 hD9 hx10
              refine wp_label ?_
              go_wp2
              rw [← hW9]
              first | rw [Exit.noGoto_ret] | rw [jump_ret] | skip
              exact bodyPost_ret (v := .tuple #[.agg #[.int .i64 0, .int .i64 0, .int .i64 0, .int .i64 0, .int .i64 0, .slice none 0 0], .int .i64 3]) (by simp [results, Tryz.results191, go_sem, g0, g1, g2, g3, g4, g5]) rfl (by rw [HON.out]; exact HW2.out)
            | true =>
              have hon2 : o = some ⟨a0, a1, a2, a3, a4, acc⟩ := by rw [hon, if_pos ⟨rfl, rfl⟩]
              have HON := Lib.hid hon2
              clear hon hon2 hdo
              go_upto_region 14 with (first | (go_at_call 173; refine HDO.out.mono ?_; rintro e w8 ⟨rfl, rfl⟩) | (go_at_call 87; refine HGO.out.mono ?_; rintro e w9 ⟨rfl, hb9⟩))
              have HQ9 := Lib.hid (And.intro (HQ.out.1.trans (hb9.mono (by omega))) (And.intro ((hb9.block bb (Array.getElem?_eq_some_iff.1 HQ.out.2).1).trans HQ.out.2) (owns_upd HO7.out (Upd.of_below (F := fun _ => False) hb9) (fun _ _ h => h))))
              obtain ⟨W9, hW9, hx9, hD9⟩ := dec_right (b := ⟨a0, a1, a2, a3, a4, acc⟩) HBB.out HQ9.out.1 HQ9.out.2.1 HQ9.out.2.2
              simp only at hW9 hx9
              simp only [Batch.v] at hD9
              have g0 := cells_of hx9 0 _ rfl
              have g1 := cells_of hx9 1 _ rfl
              have g2 := cells_of hx9 2 _ rfl
              have g3 := cells_of hx9 3 _ rfl
              have g4 := cells_of hx9 4 _ rfl
              have g5 := cells_of hx9 5 _ rfl
              have HW2 := Lib.hid hD9
              have hx10 := HQ9.out.2.1
              have d0 := cells_of hx10 0 _ rfl
              have d1 := cells_of hx10 1 _ rfl
              have d2 := cells_of hx10 2 _ rfl
              have d3 := cells_of hx10 3 _ rfl
              have d4 := cells_of hx10 4 _ rfl
              have d5 := cells_of hx10 5 _ rfl
              have q0 : w9.frozen? ⟨bb, 0, none⟩ = false := frozen_of hx10
              have q1 : w9.frozen? ⟨bb, 1, none⟩ = false := frozen_of hx10
              have q2 : w9.frozen? ⟨bb, 2, none⟩ = false := frozen_of hx10
              have q3 : w9.frozen? ⟨bb, 3, none⟩ = false := frozen_of hx10
              have q4 : w9.frozen? ⟨bb, 4, none⟩ = false := frozen_of hx10
              have q5 : w9.frozen? ⟨bb, 5, none⟩ = false := frozen_of hx10
              clear hx9 hD9 hx10
              go_wp2
              rw [← hW9]
              first | rw [Exit.noGoto_ret] | rw [jump_ret] | skip
              exact bodyPost_ret (v := .tuple #[.agg #[.int .i64 a0, .int .i64 a1, .int .i64 a2, .int .i64 a3, .int .i64 a4, .slice ra acc.length rc], .int .i64 0]) (by simp [results, Tryz.results191, go_sem, g0, g1, g2, g3, g4, g5]) rfl (by rw [HON.out]; exact HW2.out)
end Go.Proofs.YtcpaaleogmiamaaGreatDoor
