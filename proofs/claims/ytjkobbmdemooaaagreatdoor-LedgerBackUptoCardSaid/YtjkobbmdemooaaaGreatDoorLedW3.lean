/- The walk of (*Ledger).Add. -/
import Derived.Test.YtjkobbmdemooaaaGreatDoorLedW2
import Derived.Test.YtjkobbmdemooaaaGreatDoorBase2
namespace Go.Proofs.YtjkobbmdemooaaaGreatDoor
open Go.RowKit

def Added (v : Value) (B : Nat) (w : World) (r : List (Int × List Slot) × Int) (e : Ending) (w' : World) : Prop :=
  e = .returned (.int .i64 r.2) ∧ LedAt w' v B r.1 ∧ Upd (fun k => k = B) w w'

set_option maxRecDepth 100000 in
set_option maxHeartbeats 1000000 in
theorem LedAdd_no {w : World} {v : Value} {B : Nat} {L : List (Int × List Slot)} (h : LedAt w v B L) (b : Batch) (rv : Value)
    (hr : Rd w 4 rv b.recs.length (recCells b.recs)) (hg : goodB b = false ∨ (checkS (rowOf L b.prod) b.prod b.seq).2 ≠ 0) :
    Calls Tryz.prog 33 #[v, b.v rv] w (Added v B w (addS L b)) := by
  obtain ⟨bp, rv0, rfl, hbp, -⟩ := h.look 0
  have good : ∀ w1, Below w.heap.size w w1 → Calls Tryz.prog 70 #[b.v rv] w1 fun e w' => e = .returned (.bool (goodB b)) ∧ Below w1.heap.size w1 w' :=
    fun w1 hb1 => CrGood_any b rv w1 (hr.below hb1)
  have check : ∀ w1, Below w.heap.size w w1 → Calls Tryz.prog 37 #[.pointer (some ⟨bp, 0, none⟩), .int .i64 b.prod, .int .i64 b.seq] w1 fun e w' =>
      e = .returned (.tuple #[(checkS (rowOf L b.prod) b.prod b.seq).1.v, .int .i64 (checkS (rowOf L b.prod) b.prod b.seq).2]) ∧ Below w1.heap.size w1 w' :=
    fun w1 hb1 => LedCheck_any (h.below hb1) b.prod b.seq
  obtain ⟨r, hr1⟩ : ∃ r, r = addS L b := ⟨_, rfl⟩
  by_cases hgb : goodB b = true
  · have hc := hg.resolve_left (by simp [hgb])
    have hres : addS L b = (L, (checkS (rowOf L b.prod) b.prod b.seq).2) := by simp [addS, hgb, hc]
    rw [hres]
    clear hres hr1 r hg
    obtain ⟨base, count, prod, seq, time, recs⟩ := b
    unfold Batch.v at *
    dsimp only at *
    generalize checkS (rowOf L prod) prod seq = c at *
    obtain ⟨x, n⟩ := c
    dsimp only at *
    have hn : (n != 0) = true := by rw [bne_iff_ne]; exact hc
    have HG := Lib.hid good
    have HC := Lib.hid check
    clear good check hc hr
    unfold Slot.v at HC
    go_enter Tryz.func33, Tryz.ntmps33
    go_wp2_with (first
      | (go_at_call 70; refine (HG.out _ (below_alloc w _)).mono ?_; rintro e w1 ⟨rfl, hb1⟩; rw [hgb]; obtain ⟨hc1, hf1⟩ := bcell hb1; have hs1 := hb1.size; simp only [World.size_alloc] at hs1)
      | (go_at_call 37; refine (HC.out _ (below_trans (below_alloc w _) hb1)).mono ?_; rintro e w2 ⟨rfl, hb2⟩; obtain ⟨hc2, hf2⟩ := bcell hb2; have hs2 := hb2.size))
    go_ret
    have hbel := below_trans (below_trans (below_alloc w _) hb1) (below_trans hb2 (below_alloc w2 (.cells #[.int .i64 x.seq, .int .i64 x.base, .int .i64 x.fin] 69)))
    exact ⟨rfl, h.below hbel, .of_below hbel⟩
  · have hgb : goodB b = false := by simpa using hgb
    have hres : addS L b = (L, 1) := by simp [addS, hgb]
    rw [hres]
    clear hres hr1 r hg
    have HG := Lib.hid good
    clear good check hr
    obtain ⟨base, count, prod, seq, time, recs⟩ := b
    unfold Batch.v at *
    dsimp only at *
    go_enter Tryz.func33, Tryz.ntmps33
    go_wp2_with (first
      | (go_at_call 70; refine (HG.out _ (below_alloc w _)).mono ?_; rintro e w1 ⟨rfl, hb1⟩; rw [hgb]; obtain ⟨hc1, hf1⟩ := bcell hb1; have hs1 := hb1.size; simp only [World.size_alloc] at hs1))
    go_ret
    have hbel := below_trans (below_alloc w _) hb1
    exact ⟨rfl, h.below hbel, .of_below hbel⟩

theorem rowCells_snoc (l : List Slot) (x : Slot) : rowCells (l ++ [x]) = rowCells l ++ x.cells := by simp [rowCells]
theorem rowCells_drop (l : List Slot) (k : Nat) : (rowCells l).drop (k * 3) = rowCells (l.drop k) := by
  induction l generalizing k with
  | nil => simp [rowCells]
  | cons x l ih =>
    cases k with
    | zero => simp
    | succ k =>
      have e : (k + 1) * 3 = k * 3 + 3 := by omega
      have e2 : rowCells (x :: l) = .int .i64 x.seq :: .int .i64 x.base :: .int .i64 x.fin :: rowCells l := rfl
      rw [e2, e]
      simpa using ih k

theorem slots_last5 {w : World} {gg gcap : Nat} {l : List Slot} {x : Slot} (h : Sl w 69 3 (.slice (some ⟨gg, 0, none⟩) (l.length + 1) gcap) (l.length + 1) (rowCells l ++ x.cells)) :
    SlotsAt w (.slice (some ⟨gg, 0 + (l.length + 1 - 5) * 3, none⟩) (l.length + 1 - (l.length + 1 - 5)) (gcap - (l.length + 1 - 5))) (last5 (l ++ [x])) := by
  have := h.drop (l.length + 1 - 5) (by omega)
  rw [← rowCells_snoc, rowCells_drop] at this
  unfold SlotsAt last5
  have e : ((l ++ [x]).drop ((l ++ [x]).length - 5)).length = l.length + 1 - (l.length + 1 - 5) := by simp
  have e2 : (l ++ [x]).length - 5 = l.length + 1 - 5 := by simp
  rw [e, e2]
  exact this

theorem check_ok {l : List Slot} {p s : Int} (h : (checkS l p s).2 = 0) (hl : l = [] ∨ RowOk l) :
    isNumB s = true ∧ ∀ (h : 0 < l.length), s = (l[l.length - 1]'(by omega)).seq + 1 := by
  by_cases hp : isNumB p = true
  case neg => simp [checkS, hp] at h
  by_cases hs : isNumB s = true
  case neg => simp [checkS, hs] at h
  refine ⟨hs, fun hn => ?_⟩
  rw [checkS_row hp hs hn] at h
  rcases hl with rfl | hl
  · simp at hn
  have := hl.seq (l.length - 1) (by omega)
  split at h
  · simp at h
  · split at h
    · simp at h
    · split at h
      · omega
      · simp at h

theorem lastFin_get {l : List Slot} (h : 0 < l.length) : lastFin l = (l[l.length - 1]'(by omega)).fin := by
  have : l.getLast? = some (l[l.length - 1]'(by omega)) := by rw [List.getLast?_eq_getElem?, List.getElem?_eq_getElem (by omega)]
  simp [lastFin, this]

set_option maxRecDepth 100000 in
set_option maxHeartbeats 1000000 in
theorem LedAdd_yes {w : World} {v : Value} {B : Nat} {L : List (Int × List Slot)} (h : LedAt w v B L) (b : Batch) (rv : Value)
    (hr : Rd w 4 rv b.recs.length (recCells b.recs)) (hg : goodB b = true) (hck : (checkS (rowOf L b.prod) b.prod b.seq).2 = 0) (hrow : rowOf L b.prod ≠ []) :
    Calls Tryz.prog 33 #[v, b.v rv] w (Added v B w (addS L b)) := by
  obtain ⟨bp, rv0, rfl, hbp, -⟩ := h.look 0
  have good : ∀ w1, Below w.heap.size w w1 → Calls Tryz.prog 70 #[b.v rv] w1 fun e w' => e = .returned (.bool true) ∧ Below w1.heap.size w1 w' :=
    fun w1 hb1 => by rw [← hg]; exact CrGood_any b rv w1 (hr.below hb1)
  have check : ∀ w1, Below w.heap.size w w1 → Calls Tryz.prog 37 #[.pointer (some ⟨bp, 0, none⟩), .int .i64 b.prod, .int .i64 b.seq] w1 fun e w' =>
      e = .returned (.tuple #[(checkS (rowOf L b.prod) b.prod b.seq).1.v, .int .i64 0]) ∧ Below w1.heap.size w1 w' :=
    fun w1 hb1 => by have := LedCheck_any (h.below hb1) b.prod b.seq; rw [hck] at this; exact this
  have hres : addS L b = if rowOf L b.prod ≠ [] ∧ b.base < lastFin (rowOf L b.prod) then (L, 20)
      else if rowOf L b.prod = [] ∧ 64 ≤ L.length then (L, 1)
      else (putL L b.prod (last5 (rowOf L b.prod ++ [⟨b.seq, b.base, b.base + b.count⟩])), 0) := by simp [addS, hg, hck]
  have hgb : 0 ≤ b.base ∧ 1 ≤ b.count ∧ b.count ≤ 8 ∧ b.base ≤ 1099511627776 - b.count := by
    simp only [goodB, isNumB, Bool.and_eq_true, decide_eq_true_eq] at hg
    omega
  have hck2 := check_ok hck (by obtain ⟨_, _, _, _, _, _, hok, _⟩ := h.look b.prod; exact hok)
  have hnb1 : isNumB b.base = true ∧ isNumB (b.base + b.count) = true ∧ isNumB b.prod = true := by
    simp only [goodB, Bool.and_eq_true] at hg
    refine ⟨hg.1, ?_, hg.2.1⟩
    simp only [isNumB, Bool.and_eq_true, decide_eq_true_eq]; omega
  generalize addS L b = r at *
  have HRES := Lib.hid hres
  have HCK := Lib.hid (And.intro hck2 hnb1)
  clear hres hck hr hg hck2 hnb1
  obtain ⟨base, count, prod, seq, time, recs⟩ := b
  unfold Batch.v at *
  dsimp only at *
  generalize (checkS (rowOf L prod) prod seq).1 = x at *
  have HG := Lib.hid good
  have HC := Lib.hid check
  clear good check
  unfold Slot.v at HC
  go_enter Tryz.func33, Tryz.ntmps33
  go_wp2_with (first
    | (go_at_call 70; refine (HG.out _ (below_alloc w _)).mono ?_; rintro e w1 ⟨rfl, hb1⟩; obtain ⟨hc1, hf1⟩ := bcell hb1; have hs1 := hb1.size; simp only [World.size_alloc] at hs1)
    | (go_at_call 37; refine (HC.out _ (below_trans (below_alloc w _) hb1)).mono ?_; rintro e w2 ⟨rfl, hb2⟩; obtain ⟨hc2, hf2⟩ := bcell hb2; have hs2 := hb2.size))
  have hb02 : Below w.heap.size w w2 := below_trans (below_trans (below_alloc w _) hb1) hb2
  obtain ⟨bp', row, e, hbp2, hcp, hsl, hok, hlu⟩ := (h.below hb02).look prod
  obtain rfl : bp = bp' := by simpa using e
  have hsl := hsl
  have q0 : w2.cell? ⟨w.heap.size, 0, none⟩ = some (.int .i64 base) := below_some hb2 (below_some hb1 (by simp [go_sem]) (by simp)) (by omega)
  have q1 : w2.cell? ⟨w.heap.size, 1, none⟩ = some (.int .i64 count) := below_some hb2 (below_some hb1 (by simp [go_sem]) (by simp)) (by omega)
  have q2 : w2.cell? ⟨w.heap.size, 2, none⟩ = some (.int .i64 prod) := below_some hb2 (below_some hb1 (by simp [go_sem]) (by simp)) (by omega)
  have q3 : w2.cell? ⟨w.heap.size, 3, none⟩ = some (.int .i64 seq) := below_some hb2 (below_some hb1 (by simp [go_sem]) (by simp)) (by omega)
  have hw2 : w.heap.size < w2.heap.size := by omega
  obtain ⟨ra, rcap, rfl, hrcap⟩ := hsl.shape
  have hld : ∀ o n, (Instr.lookup 107 (.map (some B)) (.int .i64 prod) false).run Tryz.prog ((w2.alloc o).drewN n) = .ok (.slice ra (rowOf L prod).length rcap) ((w2.alloc o).drewN n) := fun o n => hlu _ ((upd_alloc _ _ _).trans (upd_drewN _ _ _))
  clear hlu hc1 hf1 hc2 hf2 hs1
  go_quiet (fail)
  clear hld
  have hok := hok.resolve_left hrow
  have hn : 0 < (rowOf L prod).length := List.length_pos_iff.2 hrow
  have hn5 := hok.2.1
  obtain ⟨rb, off, cap, e, hcap, hmx, hrb, hcells⟩ := hsl.at hn
  simp only [Value.slice.injEq, true_and] at e
  obtain ⟨rfl, rfl⟩ := e
  have hlast : w2.cell? ⟨rb, off + ((rowOf L prod).length - 1) * 3 + 2, none⟩ = some (.int .i64 ((rowOf L prod)[(rowOf L prod).length - 1]'(by omega)).fin) := hcells (((rowOf L prod).length - 1) * 3 + 2) _ (rowCells_get _ ((rowOf L prod).length - 1) (by omega)).2.2
  rw [← lastFin_get hn] at hlast
  have HL := Lib.hid (And.intro hcells (And.intro hsl hok))
  clear hcells hsl hok hmx
  have hn' : (0 : Int) < ((rowOf L prod).length : Int) := by omega
  have hnb : (((rowOf L prod).length : Int) == 0) = false := by rw [beq_eq_false_iff_ne]; omega
  have v1 : IntKind.i64.wrap (((rowOf L prod).length : Int) - 1) = ((rowOf L prod).length : Int) - 1 := IntWalk.i64_in _ (by omega)
  have v2 : (0 : Int) ≤ ((rowOf L prod).length : Int) - 1 := by omega
  have v3 : (1 : Int) ≤ ((rowOf L prod).length : Int) := by omega
  have v4 : (((rowOf L prod).length : Int) - 1).toNat = (rowOf L prod).length - 1 := by omega
  have v5 : ((rowOf L prod).length : Int) - 1 < ((rowOf L prod).length : Int) := by omega
  by_cases hlate : base < lastFin (rowOf L prod)
  · have hres := HRES.out
    rw [if_pos ⟨hrow, hlate⟩] at hres
    have HR2 := Lib.hid hres
    clear hres HRES hrow
    go_wp2
    go_quiet (fail)
    go_wp2
    go_ret
    have hbel := below_trans hb02 (below_alloc w2 (.cells #[.int .i64 x.seq, .int .i64 x.base, .int .i64 x.fin] 69))
    rw [HR2.out]
    refine ⟨rfl, h.below ?hb, .of_below ?hb⟩
    case hb => (repeat apply below_drewN); exact hbel
  · have hres := HRES.out
    rw [if_neg (fun hh => hlate hh.2), if_neg (fun hh => hrow hh.1)] at hres
    have HR2 := Lib.hid hres
    clear hres HRES hrow
    have hd : decide (base < lastFin (rowOf L prod)) = false := by simpa using hlate
    go_wp2
    go_quiet (fail)
    go_wp2
    obtain ⟨hcells, hsl, hok⟩ := HL.out
    obtain ⟨hck2, hnb1⟩ := HCK.out
    have hb23 := fun n => below_drewN (below_alloc w2 (.cells #[.int .i64 x.seq, .int .i64 x.base, .int .i64 x.fin] 69)) n
    generalize hW : World.drewN _ _ = w3
    have hb23 : Below w2.heap.size w2 w3 := by rw [← hW]; exact hb23 _
    have hsl3 := hsl.below hb23
    have r0 := below_some hb23 q0 hw2
    have r1 := below_some hb23 q1 hw2
    have r3 := below_some hb23 q3 hw2
    have r2 := below_some hb23 q2 hw2
    have hb03 := below_trans hb02 hb23
    have hL3 := h.below hb03
    have hs3 := hb23.size
    have hw3 : w.heap.size < w3.heap.size := by omega
    clear hW hb23 q0 q1 q2 q3 hlast hsl HL hcp v1 v2 v3 v4 v5 hd hs2 HCK
    have hsum : IntKind.i64.wrap (base + count) = base + count := IntWalk.i64_in _ (by omega)
    have hrow5 : RowOk (last5 (rowOf L prod ++ [⟨seq, base, base + count⟩])) ∧ isNumB prod = true := by
      refine ⟨?_, hnb1.2.2⟩
      refine RowOk.last5 (.inr hok) hck2.1 hnb1.1 hnb1.2.1 (by show base < base + count; omega) (fun hh => ⟨hck2.2 hh, ?_⟩)
      rw [← lastFin_get hh]; omega
    have HR5 := Lib.hid hrow5
    clear hrow5 hck2 hnb1
    have clone : ∀ w', Below w3.heap.size w3 w' → Calls Tryz.prog 71 #[.slice (some ⟨rb, off, none⟩) (rowOf L prod).length rcap] w' (Cloned w' (rowOf L prod)) := fun w' hb' => CloneSlots_any (hsl3.below hb') (by omega)
    have HCl := Lib.hid clone
    clear clone
    obtain ⟨i0, hi, hz0, hz1, hz2⟩ := info_parts info_Slot
    go_region_held3 (fun w' => w'.cell? ⟨w.heap.size, 0, none⟩ = some (.int .i64 base) ∧ w'.cell? ⟨w.heap.size, 1, none⟩ = some (.int .i64 count) ∧ w'.cell? ⟨w.heap.size, 3, none⟩ = some (.int .i64 seq))
      (first | go_keep | exact ⟨below_some hb5 r0 hw3, below_some hb5 r1 hw3, below_some hb5 r3 hw3⟩ | exact ⟨below_some hb4 r0 hw3, below_some hb4 r1 hw3, below_some hb4 r3 hw3⟩ | exact ⟨below_some hb4 (below_some (below_alloc w3 _) r0 hw3) (by simp; omega), below_some hb4 (below_some (below_alloc w3 _) r1 hw3) (by simp; omega), below_some hb4 (below_some (below_alloc w3 _) r3 hw3) (by simp; omega)⟩)
      (first
        | (go_at_call 71; refine (HCl.out _ ?_).mono ?_; (first | exact (Below.refl _ _).drew | exact (below_alloc _ _).drew); rintro e w4 ⟨vc, rfl, hown, hb4⟩)
        | (refine step_append_lies _ (by rfl) _ _ _ (by rfl) _ 69 i0 _ 3 24 und_Slots hi hz0 hz1 hz2 rfl (by omega) vc (rowOf L prod).length (rowCells (rowOf L prod)) (by rfl) (hown.alloc _) ⟨w4.heap.size, 0, none⟩ 1 1 [.int .i64 seq, .int .i64 base, .int .i64 (base + count)] (by rfl) (by rfl) (World.news_of_block (cs := #[.int .i64 seq, .int .i64 base, .int .i64 (base + count)]) (t := 69) (fr := (0, 0)) (heap_alloc_new w4 _)) (by simp [Value.oneCell']) (by omega) (by unfold maxLen; omega) (by omega) ?_ _ rfl ?_; (have hz4 := hb4.size; simp at hz4 ⊢; omega); intro gg gcap w5 hown5 hgrow5 hat5 hlt5; have hb5 : Below w3.heap.size w3 w5 := ((((Below.refl _ w3).drew.trans hb4).alloc hb4.size _).grown hgrow5 (by have hz4 := hb4.size; simp at hz4 ⊢; omega) (fun k e => (hown.lt k e).1)))
        | (refine step_append_lies _ (by rfl) _ _ _ (by rfl) _ 69 i0 _ 3 24 und_Slots hi hz0 hz1 hz2 rfl (by omega) vc (rowOf L prod).length (rowCells (rowOf L prod)) (by rfl) hown ⟨w3.heap.size, 0, none⟩ 1 1 [.int .i64 seq, .int .i64 base, .int .i64 (base + count)] (by rfl) (by rfl) (World.news_of_block (cs := #[.int .i64 seq, .int .i64 base, .int .i64 (base + count)]) (t := 69) (fr := (0, 0)) ((hb4.block w3.heap.size (by simp)).trans (heap_alloc_new w3 _))) (by simp [Value.oneCell']) (by omega) (by unfold maxLen; omega) (by omega) ?_ _ rfl ?_; (exact hb4.size); intro gg gcap w5 hown5 hgrow5 hat5 hlt5; have hb5 : Below w3.heap.size w3 w5 := ((((Below.refl _ w3).alloc (Nat.le_refl _) _).drew.trans (hb4.mono (by simp))).grown hgrow5 (by have hz4 := hb4.size; simp at hz4 ⊢; omega) (fun k e => by have := (hown.lt k e).1; simp at this; omega))))
    all_goals
      have hs5 := Sl.of_owns hown5
      have hL5 := hL3.below hb5
      have hu5 := below_trans hb03 hb5
      have hz5 := hb5.size
      have e2 : w5.cell? ⟨w.heap.size, 2, none⟩ = some (.int .i64 prod) := below_some hb5 r2 hw3
      clear hown5 hgrow5 hat5 hlt5 hown hb4 HCl hsl3 hL3 hb5 hb03 r0 r1 r2 r3 hi hz0 hz1 hz2
    all_goals
      obtain ⟨bp', m5, e, hne5, hc5, hm5, -⟩ := hL5.ptr
      obtain rfl : bp = bp' := by simpa using e
      have HM := Lib.hid hm5
      clear hm5
      go_wp2
      have hn5 : (rowOf L prod).length ≤ 5 := hok.2.1
      have hBw : B < w.heap.size := by obtain ⟨_, mm, _, _, _, ⟨_, _, hbb, _⟩, _⟩ := h.ptr; exact (Array.getElem?_eq_some_iff.1 hbb).1
      have hgc : (rowOf L prod).length + 1 ≤ gcap := by obtain ⟨_, _, e, h⟩ := hs5.shape; simp only [Value.slice.injEq] at e; omega
      clear hnb
    all_goals
      by_cases h5 : (rowOf L prod).length = 5
      · have g1 : IntKind.i64.wrap 1 = 1 := by decide
        have g2 : 6 ≤ gcap := by omega
        have g3 : (6 : Int) ≤ (gcap : Int) := by omega
        rw [h5]
        clear hn5 hgc
        have H5 := Lib.hid h5
        clear h5
        have g4 : ¬ gcap = 1 := by omega
        obtain ⟨w6, hmu, hm6, hu6⟩ := mapUpdate_run und_mapLed und_int (HM.out.same (w' := w5.drew) rfl) prod (.slice (some ⟨gg, 3, none⟩) 5 (gcap - 1))
        have k2 := upd_some hu6 e2 (by omega)
        have kp := upd_some hu6 hc5 hne5
        go_region_held3 (fun w' => w'.cell? ⟨w.heap.size, 2, none⟩ = some (.int .i64 prod) ∧ w'.cell? ⟨bp, 0, none⟩ = some (.map (some B)))
          (first | go_keep | exact ⟨k2, kp⟩)
          (first | fail)
        clear hmu
        go_wp2
        go_ret
        rw [HR2.out]
        have hV := slots_last5 (x := ⟨seq, base, base + count⟩) hs5
        rw [H5.out] at hV
        have hfin := hL5.put HM.out hm6 ((upd_drew _ w5).trans hu6) hV HR5.out.1 HR5.out.2
        exact ⟨rfl, hfin, (Upd.of_below hu5).trans ((upd_drew _ w5).trans hu6)⟩
      · by_cases h4 : (rowOf L prod).length = 4
        · have g1 : IntKind.i64.wrap 0 = 0 := by decide
          have g2 : 5 ≤ gcap := by omega
          have g3 : (5 : Int) ≤ (gcap : Int) := by omega
          rw [h4]
          clear hn5 hgc
          have H5 := Lib.hid h4
          clear h4
          have g4 : ¬ gcap = 0 := by omega
          obtain ⟨w6, hmu, hm6, hu6⟩ := mapUpdate_run und_mapLed und_int (HM.out.same (w' := w5.drew) rfl) prod (.slice (some ⟨gg, 0, none⟩) 5 gcap)
          have k2 := upd_some hu6 e2 (by omega)
          have kp := upd_some hu6 hc5 hne5
          go_region_held3 (fun w' => w'.cell? ⟨w.heap.size, 2, none⟩ = some (.int .i64 prod) ∧ w'.cell? ⟨bp, 0, none⟩ = some (.map (some B)))
            (first | go_keep | exact ⟨k2, kp⟩)
            (first | fail)
          clear hmu
          go_wp2
          go_ret
          rw [HR2.out]
          have hV := slots_last5 (x := ⟨seq, base, base + count⟩) hs5
          rw [H5.out] at hV
          have hfin := hL5.put HM.out hm6 ((upd_drew _ w5).trans hu6) hV HR5.out.1 HR5.out.2
          exact ⟨rfl, hfin, (Upd.of_below hu5).trans ((upd_drew _ w5).trans hu6)⟩
        · have h4 : ((rowOf L prod).length : Int) + 1 - 5 < 0 := by omega
          have h4' : IntKind.i64.wrap (((rowOf L prod).length : Int) + 1 - 5) = ((rowOf L prod).length : Int) + 1 - 5 := IntWalk.i64_in _ (by omega)
          have g3 : ((rowOf L prod).length : Int) + 1 ≤ (gcap : Int) := by omega
          have g4 : ¬ gcap = 0 := by omega
          have g5 : (0 : Int) ≤ ((rowOf L prod).length : Int) + 1 := by omega
          obtain ⟨w6, hmu, hm6, hu6⟩ := mapUpdate_run und_mapLed und_int (HM.out.same (w' := w5.drew) rfl) prod (.slice (some ⟨gg, 0, none⟩) ((rowOf L prod).length + 1) gcap)
          have k2 := upd_some hu6 e2 (by omega)
          have kp := upd_some hu6 hc5 hne5
          go_region_held3 (fun w' => w'.cell? ⟨w.heap.size, 2, none⟩ = some (.int .i64 prod) ∧ w'.cell? ⟨bp, 0, none⟩ = some (.map (some B)))
            (first | go_keep | exact ⟨k2, kp⟩)
            (first | fail)
          clear hmu
          go_wp2
          go_ret
          rw [HR2.out]
          have hV := slots_last5 (x := ⟨seq, base, base + count⟩) hs5
          have e5 : (rowOf L prod).length + 1 - 5 = 0 := by omega
          rw [e5] at hV
          have hfin := hL5.put HM.out hm6 ((upd_drew _ w5).trans hu6) hV HR5.out.1 HR5.out.2
          exact ⟨rfl, hfin, (Upd.of_below hu5).trans ((upd_drew _ w5).trans hu6)⟩
end Go.Proofs.YtjkobbmdemooaaaGreatDoor
