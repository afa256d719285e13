/- The walk of flock.owned. -/
/- The walks of slices.Index and Contains at texts, of IndexFunc at points with flock.Look's closure. -/
import Derived.Test.YtdchjepahgecgaaGreatDoorMq28
namespace Go.Proofs.YtdchjepahgecgaaGreatDoor
open Go.RowKit

/-- An answer. -/
structure Rs where
  client : Int
  n : Int
  code : Int
  off : Int
  gen : Int
  parts : List Int
  deriving DecidableEq
abbrev rsV (r : Rs) (pa : Option Addr) (pc : Nat) : Value := .agg #[.int .i64 r.client, .int .i64 r.n, .int .i64 r.code, .int .i64 r.off, .int .i64 0, .int .i64 r.gen, .slice pa r.parts.length pc, .slice none 0 0]
def RespTo (w : World) (r : Rs) (e : Ending) (w' : World) : Prop := ∃ (pa : Option Addr) (pc : Nat), e = .returned (rsV r pa pc) ∧ w'.ownsRow w.heap.size 3 1 (.slice pa r.parts.length pc) r.parts.length (intCells r.parts) ∧ Below w.heap.size w w'
def ownedP (L : List Fk) (q : Rq) (client n : Int) : Rs := ⟨client, n, 0, 0, (theF L q.group).gen, partsP (theF L q.group).parts (theF L q.group).members q.member⟩

abbrev rsC (c n code off gen : Int) (pv : Value) : Array Value := #[.int .i64 c, .int .i64 n, .int .i64 code, .int .i64 off, .int .i64 0, .int .i64 gen, pv, .slice none 0 0]

set_option maxRecDepth 100000 in
set_option maxHeartbeats 4000000 in
theorem owned_any {w : World} {v : Value} {L : List Fk} (h : FksRd w v L) (hr : FkUp L) (hL : L.length ≤ 1000) (q : Rq) (c n : Int) :
    Calls Tryz.prog 39 #[.agg (rsC c n 0 0 0 (.slice none 0 0)), v, q.v] w (RespTo w (ownedP L q c n)) := by
  obtain ⟨y, hy⟩ : ∃ y, theF L q.group = y := ⟨_, rfl⟩
  obtain ⟨wa, hwa⟩ : ∃ wa, wa = ((w.alloc (.cells (rsC c n 0 0 0 (.slice none 0 0)) 39)).alloc q.box).alloc (.cells (rsC 0 0 0 0 0 (.slice none 0 0)) 39) := ⟨_, rfl⟩
  have hb1 : Below w.heap.size w wa := by rw [hwa]; exact below_alloc3 _ _ _ _
  have hN0 : wa.heap[w.heap.size]? = some (.cells (rsC c n 0 0 0 (.slice none 0 0)) 39 (0, 0)) := by
    rw [hwa, Below.heap_alloc _ _ _ (by simp; omega), Below.heap_alloc _ _ _ (by simp)]; exact heap_alloc_new w _
  have hN1 : wa.heap[w.heap.size + 1]? = some q.box := by rw [hwa, Below.heap_alloc _ _ _ (by simp)]; exact heap_new1 w _ _
  have hN2 : wa.heap[w.heap.size + 2]? = some (.cells (rsC 0 0 0 0 0 (.slice none 0 0)) 39 (0, 0)) := by rw [hwa]; exact heap_new2 w _ _ _
  have hsz : wa.heap.size = w.heap.size + 3 := by rw [hwa]; simp
  have hthe := the_F (h.below hb1) hr hL q.group
  rw [hy] at hthe
  have x8 := cells_of hN1 8 _ rfl
  obtain ⟨a, cap, rfl, -, -, -⟩ := h.cells
  have HT := Lib.hid hthe
  have HN := Lib.hid (And.intro hN0 (And.intro hN1 (And.intro hN2 (And.intro hb1 hsz))))
  obtain ⟨R, hR⟩ : ∃ R, ownedP L q c n = R := ⟨_, rfl⟩
  rw [hR]
  unfold ownedP at hR
  rw [hy] at hR
  have HR := Lib.hid hR
  clear h hthe hN0 hN1 hN2 hb1 hsz hR hy
  simp only [Rq.box] at hwa
  go_enter Tryz.func39, Tryz.ntmps39
  go_upto_region 1 with fail
  rw [← hwa]
  clear hwa
  go_upto_region 2 with (first | (go_at_call 24; refine HT.out.mono ?_; rintro _ w1 ⟨hb1, ma, mc, pa, pc, rfl, hst, hpt⟩))
  obtain ⟨wf, hwc⟩ : ∃ wf, wf = w1.alloc (.cells #[.string (bs y.name), .int .i64 y.gen, .int .i64 y.parts, .slice ma y.members.length mc, .slice pa y.points.length pc] 44) := ⟨_, rfl⟩
  have hF : wf.heap[w1.heap.size]? = some (.cells #[.string (bs y.name), .int .i64 y.gen, .int .i64 y.parts, .slice ma y.members.length mc, .slice pa y.points.length pc] 44 (0, 0)) := by rw [hwc]; exact heap_alloc_new _ _
  have hbc1 : Below w1.heap.size w1 wf := by rw [hwc]; exact below_alloc _ _
  have hsc : wf.heap.size = w1.heap.size + 1 := by rw [hwc]; simp
  rw [← hwc]
  clear hwc
  have hk : ∀ W, Below wf.heap.size wf W → (W.cell? ⟨w1.heap.size, 1, none⟩ = some (.int .i64 y.gen) ∧ W.cell? ⟨w1.heap.size, 2, none⟩ = some (.int .i64 y.parts) ∧ W.cell? ⟨w1.heap.size, 3, none⟩ = some (.slice ma y.members.length mc) ∧ W.cell? ⟨w.heap.size + 1, 9, none⟩ = some (.string (bs q.member))) ∧
      (W.heap[w.heap.size]? = some (.cells (rsC c n 0 0 0 (.slice none 0 0)) 39 (0, 0)) ∧ W.heap[w.heap.size + 2]? = some (.cells (rsC 0 0 0 0 0 (.slice none 0 0)) 39 (0, 0))) ∧ Strs W (.slice ma y.members.length mc) y.members ∧ Below w.heap.size w W := by
    intro W hb
    obtain ⟨hN0, hN1, hN2, hb0, hsz⟩ := HN.out
    have hs1 := hb1.size
    have hbW : Below wa.heap.size wa W := hb1.trans ((hbc1.trans (hb.mono (by omega))).mono hs1)
    have b0 := (hbW.block (w.heap.size + 1) (by omega)).trans hN1
    have b1 := (hb.block w1.heap.size (by omega)).trans hF
    exact ⟨⟨cells_of b1 1 _ rfl, cells_of b1 2 _ rfl, cells_of b1 3 _ rfl, cells_of b0 9 _ rfl⟩, ⟨(hbW.block w.heap.size (by omega)).trans hN0, (hbW.block (w.heap.size + 2) (by omega)).trans hN2⟩, hst.below (hbc1.trans (hb.mono (by omega))), hb0.trans (hbW.mono (by omega))⟩
  have HK := Lib.hid hk
  have hpa : ∀ W, Below wf.heap.size wf W → Calls Tryz.prog 81 #[.int .i64 y.parts, .slice ma y.members.length mc, .string (bs q.member)] W fun e w' => ∃ (la : Option Addr) (lc : Nat), e = .returned (.slice la R.parts.length lc) ∧ w'.ownsRow wf.heap.size 3 1 (.slice la R.parts.length lc) R.parts.length (intCells R.parts) ∧ Below wf.heap.size wf w' := fun W hb => by
    rw [← HR.out]
    refine (SParts_any (HK.out W hb).2.2.1 y.parts q.member).mono ?_
    rintro e w' ⟨la, lc, rfl, h1, h2⟩
    exact ⟨la, lc, rfl, owns_mono h1 hb.size, hb.trans (h2.mono hb.size)⟩
  have HPA := Lib.hid hpa
  have hsp : ∀ W, Below wf.heap.size wf W → W.cell? ⟨w1.heap.size, 1, none⟩ = some (.int .i64 y.gen) ∧ W.cell? ⟨w1.heap.size, 2, none⟩ = some (.int .i64 y.parts) ∧ W.cell? ⟨w1.heap.size, 3, none⟩ = some (.slice ma y.members.length mc) ∧ W.cell? ⟨w.heap.size + 1, 9, none⟩ = some (.string (bs q.member)) := fun W hb => (HK.out W hb).1
  have HSP := Lib.hid hsp
  have hne0 : w.heap.size + 3 ≤ w1.heap.size := by have h1 := hb1.size; have h2 := HN.out.2.2.2.2; omega
  have hne1 : ¬ w.heap.size = w1.heap.size := by omega
  have hne2 : ¬ w1.heap.size = w.heap.size := by omega
  have hwf : w.heap.size + 3 ≤ wf.heap.size := by omega
  have hbr : Below wf.heap.size wf wf := Below.refl _ _
  clear hk hpa hsp hst hpt hF hbc1 hsc hb1 HN HT x8
  go_region_held3 (fun W' => W'.cell? ⟨w1.heap.size, 1, none⟩ = some (.int .i64 y.gen) ∧ W'.cell? ⟨w1.heap.size, 2, none⟩ = some (.int .i64 y.parts) ∧ W'.cell? ⟨w1.heap.size, 3, none⟩ = some (.slice ma y.members.length mc) ∧ W'.cell? ⟨w.heap.size + 1, 9, none⟩ = some (.string (bs q.member)))
    (first | exact HSP.out _ (hbr.trans ((Below.refl _ _).drew.mono hbr.size)) | (have hg := hb3; first | exact HSP.out _ hg | go_keep))
    (first
      | (go_at_call 81; refine (HPA.out _ (hbr.trans ((Below.refl _ _).drew.mono hbr.size))).mono ?_; rintro e w3 ⟨la, lc, rfl, hi3, hb3⟩; have hk3 := (HK.out _ hb3).2.1; have r5 := cells_of hk3.1 5 _ rfl; have r6 := cells_of hk3.1 6 _ rfl; have f5 := frozen_of (j := 5) hk3.1; have f6 := frozen_of (j := 6) hk3.1; have H3 := Lib.hid (And.intro hk3 (And.intro hi3 (HK.out _ hb3).2.2.2)); clear hk3))
  rename_i hH
  clear hH
  obtain ⟨W, hW⟩ : ∃ W, W = (w3.setCell ⟨w.heap.size, 5, none⟩ (.int .i64 y.gen)).setCell ⟨w.heap.size, 6, none⟩ (.slice la R.parts.length lc) := ⟨_, rfl⟩
  have hz : W.heap[w.heap.size]? = some (.cells (rsC c n 0 0 y.gen (.slice la R.parts.length lc)) 39 (0, 0)) := by rw [hW]; exact setCell_same (o := 6) (v := .slice la R.parts.length lc) (setCell_same (o := 5) (v := .int .i64 y.gen) H3.out.1.1)
  have hu : Upd (fun k => k = w.heap.size) w3 W := by rw [hW]; exact (upd_set1 _ _ _ _).trans (upd_set1 _ _ _ _)
  have hz2 : W.heap[w.heap.size + 1 + 1]? = some (.cells (rsC 0 0 0 0 0 (.slice none 0 0)) 39 (0, 0)) := (hu.block _ (by have := H3.out.2.2.size; have := hb3.size; omega) (by omega)).trans H3.out.1.2
  rw [← hW]
  clear hW
  have c0 := cells_of hz 0 _ rfl
  have c1 := cells_of hz 1 _ rfl
  have c2 := cells_of hz 2 _ rfl
  have c3 := cells_of hz 3 _ rfl
  have c4 := cells_of hz 4 _ rfl
  have c5 := cells_of hz 5 _ rfl
  have c6 := cells_of hz 6 _ rfl
  have c7 := cells_of hz 7 _ rfl
  have f0 := frozen_of (j := 0) hz2
  have f1 := frozen_of (j := 1) hz2
  have f2 := frozen_of (j := 2) hz2
  have f3 := frozen_of (j := 3) hz2
  have f4 := frozen_of (j := 4) hz2
  have f5 := frozen_of (j := 5) hz2
  have f6 := frozen_of (j := 6) hz2
  have f7 := frozen_of (j := 7) hz2
  have d0 := cells_of hz2 0 _ rfl
  have d1 := cells_of hz2 1 _ rfl
  have d2 := cells_of hz2 2 _ rfl
  have d3 := cells_of hz2 3 _ rfl
  have d4 := cells_of hz2 4 _ rfl
  have d5 := cells_of hz2 5 _ rfl
  have d6 := cells_of hz2 6 _ rfl
  have d7 := cells_of hz2 7 _ rfl
  have HZ := Lib.hid (And.intro hz2 hu)
  clear hz hz2 hu r5 r6
  go_wp2
  obtain ⟨hz2, hu⟩ := HZ.out
  obtain ⟨hz, hu2⟩ := set8 hz2 (.int .i64 c) (.int .i64 n) (.int .i64 0) (.int .i64 0) (.int .i64 0) (.int .i64 y.gen) (.slice la R.parts.length lc) (.slice none 0 0)
  have s0 := cells_of hz 0 _ rfl
  have s1 := cells_of hz 1 _ rfl
  have s2 := cells_of hz 2 _ rfl
  have s3 := cells_of hz 3 _ rfl
  have s4 := cells_of hz 4 _ rfl
  have s5 := cells_of hz 5 _ rfl
  have s6 := cells_of hz 6 _ rfl
  have s7 := cells_of hz 7 _ rfl
  have hbz := H3.out.2.2
  have hof := (owns_upd (owns_upd H3.out.2.1 hu (fun g hg e => by have := (owns_lt H3.out.2.1 g hg).1; omega)) hu2 (fun g hg e => by have := (owns_lt H3.out.2.1 g hg).1; omega))
  have hbf := (hbz.trans (hu.toBelow hbz.size (fun k e => by omega))).trans (hu2.toBelow (N := w.heap.size) (by have := hu.size; have := hbz.size; omega) (fun k e => by omega))
  refine bodyPost_ret (v := .agg (rsC c n 0 0 y.gen (.slice la R.parts.length lc))) (by simp [results, Tryz.results39, go_sem, s0, s1, s2, s3, s4, s5, s6, s7]) rfl ⟨la, lc, by rw [← HR.out], owns_mono hof (by omega), hbf⟩
end Go.Proofs.YtdchjepahgecgaaGreatDoor
namespace Go.Proofs.YtdchjepahgecgaaGreatDoor
open Go.RowKit

def idxP {α : Type} (p : α → Bool) (l : List α) : Int := match l.findIdx? p with | some i => i | none => -1
theorem idxP_at {α : Type} {p : α → Bool} {l : List α} {k : Nat} (hk : k < l.length) (h : ∀ j (hj : j < l.length), j < k → p l[j] = false) (e : p l[k] = true) : idxP p l = k := by
  have : l.findIdx? p = some k := by
    rw [List.findIdx?_eq_some_iff_getElem]
    exact ⟨hk, e, fun j hj => by simp [h j (by omega) hj]⟩
  simp [idxP, this]
theorem idxP_no {α : Type} {p : α → Bool} {l : List α} (h : ∀ j (hj : j < l.length), p l[j] = false) : idxP p l = -1 := by
  have : l.findIdx? p = none := by
    rw [List.findIdx?_eq_none_iff]
    intro y hy
    obtain ⟨j, hj, rfl⟩ := List.mem_iff_getElem.1 hy
    exact h j hj
  simp [idxP, this]
theorem idxP_any {α : Type} (p : α → Bool) (l : List α) : decide (0 ≤ idxP p l) = l.any p := by
  unfold idxP
  cases h : l.findIdx? p with
  | none =>
    rw [List.findIdx?_eq_none_iff] at h
    have : l.any p = false := by rw [List.any_eq_false]; intro x hx; simp [h x hx]
    rw [this]; rfl
  | some i =>
    rw [List.findIdx?_eq_some_iff_getElem] at h
    obtain ⟨hi, h1, -⟩ := h
    have : l.any p = true := List.any_eq_true.2 ⟨_, List.getElem_mem hi, h1⟩
    rw [this]; simp

set_option maxRecDepth 100000 in
theorem IndexStr_any {w : World} {v : Value} {l : List (List UInt8)} (h : Strs w v l) (x : List UInt8) : Calls Tryz.prog 82 #[v, .string (bs x)] w fun e w' => e = .returned (.int .i64 (idxP (fun y => decide (x = y)) l)) ∧ w' = w := by
  obtain ⟨a, cap, rfl, -, hml, hC⟩ := h.cells
  have hml' : (l.length : Int) ≤ 9223372036854775807 := by have : maxLen = 9223372036854775807 := rfl; omega
  have HC := Lib.hid hC
  clear h hC hml
  go_enter Tryz.func82, Tryz.ntmps82
  go_wp2
  go_loopg [5, 8] l.length (fun gk _ i wr => ∃ k : Nat, k ≤ l.length ∧ gk = l.length - k ∧ i = .int .i64 k ∧ wr = w ∧ ∀ j (hl : j < l.length), j < k → decide (x = l[j]) = false)
  case atStart => exact ⟨0, Nat.zero_le _, rfl, rfl, rfl, fun j _ hj => absurd hj (Nat.not_lt_zero j)⟩
  case round =>
    obtain ⟨k, hk, rfl, rfl, rfl, hno⟩ := hrel
    have HN := Lib.hid hno
    clear hno
    by_cases hlt : k < l.length
    · obtain ⟨b, off, rfl, hb, c0⟩ := HC.out k hlt
      have i1 : (k : Int) < (l.length : Int) := by omega
      have i2 : (0 : Int) ≤ (k : Int) := by omega
      have hn1 : decide (x = l[k]) = true → idxP (fun y => decide (x = y)) l = k := fun e => idxP_at (p := fun y => decide (x = y)) hlt HN.out e
      have hn2 : decide (x = l[k]) = false → ∀ j (hl : j < l.length), j < k + 1 → decide (x = l[j]) = false := by
        intro hne j hl hj
        by_cases e : j = k
        · subst e; exact hne
        · exact HN.out j hl (by omega)
      generalize l[k] = y at *
      have hbq := beq_dec x y
      cases e : decide (x = y) with
      | true =>
        rw [e] at hbq
        have HI := Lib.hid (hn1 e)
        clear hn1 hn2 e
        go_wp2
        go_ret
        exact ⟨ret_i HI.out.symm, rfl⟩
      | false =>
        rw [e] at hbq
        have HN2 := Lib.hid (hn2 e)
        clear hn1 hn2 e
        go_wp2
        go_roundg (l.length - (k + 1))
        case measure => omega
        case rel => exact ⟨k + 1, by omega, rfl, by go_num, rfl, HN2.out⟩
    · have i1 : ¬ (k : Int) < (l.length : Int) := by omega
      have HI := Lib.hid (idxP_no (p := fun y => decide (x = y)) (l := l) (fun j hj => HN.out j hj (by omega)))
      go_wp2
      go_ret
      exact ⟨ret_i HI.out.symm, rfl⟩

theorem ContainsStr_any {w : World} {v : Value} {l : List (List UInt8)} (h : Strs w v l) (x : List UInt8) : Calls Tryz.prog 41 #[v, .string (bs x)] w fun e w' => e = .returned (.bool (l.any (fun y => decide (x = y)))) ∧ w' = w := by
  have HI := Lib.hid (IndexStr_any h x)
  have HA := Lib.hid (idxP_any (fun y => decide (x = y)) l)
  obtain ⟨i, hi⟩ : ∃ i, idxP (fun y => decide (x = y)) l = i := ⟨_, rfl⟩
  rw [hi] at HI HA
  obtain ⟨a, cap, rfl, -⟩ := h.cells
  clear h hi
  go_enter Tryz.func41, Tryz.ntmps41
  go_wp2_with (first | (go_at_call 82; refine HI.out.mono ?_; rintro _ w1 ⟨rfl, rfl⟩))
  go_ret
  exact ⟨by rw [← HA.out]; rfl, rfl⟩

theorem Look1_any {w : World} (a o : Int) {p : Nat} {x : Int} (hx : w.cell? ⟨p, 3, none⟩ = some (.int .i64 x)) (hp : p < w.heap.size) : Calls Tryz.prog 43 #[.agg #[.int .i64 a, .int .i64 o], .pointer (some ⟨p, 0, none⟩)] w fun e w' => e = .returned (.bool (decide (a = x))) ∧ Below w.heap.size w w' := by
  have hx' := fun ob => below_some (below_alloc w ob) hx hp
  go_enter Tryz.func43, Tryz.ntmps43
  go_wp2
  go_ret
  exact ⟨by rw [show (decide (a = x)) = (a == x) from by by_cases h : a = x <;> simp [h]]; rfl, below_alloc w _⟩

set_option maxRecDepth 100000 in
theorem IndexFuncPt_any {w : World} {v : Value} {l : List (Int × Int)} (h : PtsRd w v l) {p : Nat} {x : Int} (hx : w.cell? ⟨p, 3, none⟩ = some (.int .i64 x)) (hp : p < w.heap.size) : Calls Tryz.prog 42 #[v, .func (.func 43) #[] #[.pointer (some ⟨p, 0, none⟩)]] w fun e w' => e = .returned (.int .i64 (idxP (fun y => decide (y.1 = x)) l)) ∧ Below w.heap.size w w' := by
  obtain ⟨a, cap, rfl, -, hml, hC⟩ := h.cells
  have hml' : (l.length : Int) ≤ 9223372036854775807 := by have : maxLen = 9223372036854775807 := rfl; omega
  have HC := Lib.hid hC
  have HX := Lib.hid (And.intro hx hp)
  clear h hC hml hx hp
  go_enter Tryz.func42, Tryz.ntmps42
  go_wp2
  go_loopg [5, 8] l.length (fun gk _ i wr => ∃ k : Nat, k ≤ l.length ∧ gk = l.length - k ∧ i = .int .i64 k ∧ Below w.heap.size w wr ∧ ∀ j (hl : j < l.length), j < k → decide (l[j].1 = x) = false)
  case atStart => exact ⟨0, Nat.zero_le _, rfl, rfl, Below.refl _ _, fun j _ hj => absurd hj (Nat.not_lt_zero j)⟩
  case round =>
    obtain ⟨k, hk, rfl, rfl, hbel, hno⟩ := hrel
    have HN := Lib.hid hno
    have HB := Lib.hid hbel
    clear hno
    by_cases hlt : k < l.length
    · obtain ⟨b, off, rfl, hb, c0, c1⟩ := HC.out k hlt
      have c0 := below_some hbel c0 hb
      have c1 := below_some hbel c1 hb
      have i1 : (k : Int) < (l.length : Int) := by omega
      have i2 : (0 : Int) ≤ (k : Int) := by omega
      have hn1 : decide (l[k].1 = x) = true → idxP (fun y => decide (y.1 = x)) l = k := fun e => idxP_at (p := fun y : Int × Int => decide (y.1 = x)) hlt HN.out e
      have hn2 : decide (l[k].1 = x) = false → ∀ j (hl : j < l.length), j < k + 1 → decide (l[j].1 = x) = false := by
        intro hne j hl hj
        by_cases e : j = k
        · subst e; exact hne
        · exact HN.out j hl (by omega)
      have hc := Look1_any l[k].1 l[k].2 (below_some hbel HX.out.1 HX.out.2) (Nat.lt_of_lt_of_le HX.out.2 hbel.size)
      generalize decide (l[k].1 = x) = t at *
      generalize l[k].1 = y1 at *
      generalize l[k].2 = y2 at *
      have HL := Lib.hid hc
      clear hc hbel
      cases t with
      | true =>
        have HI := Lib.hid (hn1 rfl)
        clear hn1 hn2
        go_wp2_with (first | (go_at_call 43; refine HL.out.mono ?_; rintro _ w1 ⟨rfl, hb1⟩))
        go_ret
        exact ⟨ret_i HI.out.symm, HB.out.trans (hb1.mono HB.out.size)⟩
      | false =>
        have HN2 := Lib.hid (hn2 rfl)
        clear hn1 hn2
        go_wp2_with (first | (go_at_call 43; refine HL.out.mono ?_; rintro _ w1 ⟨rfl, hb1⟩))
        go_roundg (l.length - (k + 1))
        case measure => omega
        case rel => exact ⟨k + 1, by omega, rfl, by go_num, HB.out.trans (hb1.mono HB.out.size), HN2.out⟩
    · have i1 : ¬ (k : Int) < (l.length : Int) := by omega
      have HI := Lib.hid (idxP_no (p := fun y : Int × Int => decide (y.1 = x)) (l := l) (fun j hj => HN.out j hj (by omega)))
      clear hbel
      go_wp2
      go_ret
      exact ⟨ret_i HI.out.symm, HB.out⟩
end Go.Proofs.YtdchjepahgecgaaGreatDoor
