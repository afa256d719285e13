/- The walk of LedgerExact. -/
import Derived.Test.YtcgjhifcocmdaaaLedE3
import Derived.Test.YtcgjhifcocmdaaaLedE8
import Derived.Test.YtcgjhifcocmdaaaLedE9
import Derived.Test.YtcgjhifcocmdaaaLedApW
import Derived.Test.YtcgjhifcocmdaaaLedArg2
namespace Go.Proofs.Ytcgjhifcocmdaaa
open Go.RowKit

theorem great_false {T : List (Int × List Slot)} (h : greatB T = false) : T.length ≤ 100 := by
  simp only [greatB, Bool.or_eq_false_iff, decide_eq_false_iff_not] at h
  omega

/-- What the loops know: the ledger and the reference's table, side by side. -/
structure Side (w wr : World) (bp B : Nat) (t : Value) (L : List (Int × List Slot)) : Prop where
  led : LedAt wr (.pointer (some ⟨bp, 0, none⟩)) B L
  tab : SeensRd wr t (tableS L)
  new : w.heap.size ≤ B
  below : Below w.heap.size w wr

theorem Side.next {w wr w' : World} {bp B : Nat} {t : Value} {L : List (Int × List Slot)} (h : Side w wr bp B t L) (hb : Below wr.heap.size wr w') : Side w w' bp B t L :=
  ⟨h.led.below hb, h.tab.below hb, h.new, h.below.trans (hb.mono h.below.size)⟩

def SlotIn (w : World) (b : Nat) (x0 x1 x2 : Int) : Prop :=
  b < w.heap.size ∧ w.cell? ⟨b, 0, none⟩ = some (.int .i64 x0) ∧ w.cell? ⟨b, 1, none⟩ = some (.int .i64 x1) ∧ w.cell? ⟨b, 2, none⟩ = some (.int .i64 x2)

theorem SlotIn.below {w w' : World} {b : Nat} {x0 x1 x2 : Int} (h : SlotIn w b x0 x1 x2) (hb : Below w.heap.size w w') : SlotIn w' b x0 x1 x2 :=
  ⟨by have := hb.size; have := h.1; omega, below_some hb h.2.1 h.1, below_some hb h.2.2.1 h.1, below_some hb h.2.2.2 h.1⟩

theorem SlotIn.of {w : World} {b : Nat} {x0 x1 x2 : Int} (h : w.heap[b]? = some (.cells #[.int .i64 x0, .int .i64 x1, .int .i64 x2] 32)) : SlotIn w b x0 x1 x2 :=
  ⟨(Array.getElem?_eq_some_iff.1 h).1, by rw [cell_of_row w _ _ _ _ _ h]; rfl, by rw [cell_of_row w _ _ _ _ _ h]; rfl, by rw [cell_of_row w _ _ _ _ _ h]; rfl⟩

set_option maxRecDepth 100000 in
set_option maxHeartbeats 4000000 in
theorem Exact_any {w : World} {v v2 v3 : Value} {T : List (Int × List Slot)} {l : List Batch} {qs : List (Int × Int)} (h1 : SeensRd w v T) (h2 : BatchesRd w v2 l) (h3 : PairsAt w v3 qs) :
    Calls Try.prog 5 #[v, v2, v3] w fun e w' => e = .returned (.bool true) ∧ Below w.heap.size w w' := by
  obtain ⟨qa, qcap, rfl, hql, hqc⟩ := h3
  obtain ⟨ba, bcap, rfl, hbl, hbc⟩ := h2.cells
  have hbl' : (l.length : Int) ≤ 9223372036854775807 := by unfold maxLen at hbl; omega
  have hql' : (qs.length : Int) ≤ 9223372036854775807 := by omega
  have HT := Lib.hid h1
  have HB := Lib.hid hbc
  have HQ := Lib.hid hqc
  obtain ⟨ta, tcap, rfl, -, -⟩ := h1.cells
  clear h1 h2 hqc hbc hbl hql
  go_enter Try.func5, Try.ntmps5
  go_wp2_with fail
  refine (awake_any _).mono ?_
  rintro e w1 ⟨rfl, hb1⟩
  go_wp2_with fail
  refine (great_any (HT.out.below hb1)).mono ?_
  rintro e w2 ⟨rfl, rfl⟩
  cases hgr : greatB T
  case true =>
    go_wp2
    go_ret
    exact ⟨rfl, hb1⟩
  case false =>
    have hT100 := great_false hgr
    by_cases hq100 : 100 < qs.length
    · have i1 : (100 : Int) < (qs.length : Int) := by omega
      go_wp2
      go_ret
      exact ⟨rfl, hb1⟩
    · have i1 : ¬ (100 : Int) < (qs.length : Int) := by omega
      go_wp2_with fail
      refine (LedFrom_any (HT.out.below hb1)).mono ?_
      rintro e w3 (⟨htb, bp, B, rfl, hBn, hled, hb3⟩ | ⟨htb, rfl, hb3⟩)
      case inr =>
        go_wp2_with fail
        refine (R6Good_any (HT.out.below (below_trans hb1 hb3))).mono ?_
        rintro e w4 ⟨rfl, hb4⟩
        rw [htb]
        go_wp2
        go_ret
        exact ⟨rfl, below_trans (below_trans hb1 hb3) hb4⟩
      case inl =>
        go_wp2_with fail
        refine (R6Good_any (HT.out.below (below_trans hb1 hb3))).mono ?_
        rintro e w4 ⟨rfl, hb4⟩
        rw [htb]
        have hok := fun k hk => ((isTableB_ok htb).1 k hk).1
        have hself := tableS_self htb
        have hb04 := below_trans (below_trans hb1 hb3) hb4
        have hled4 := hled.below hb4
        have hcopy := R6Copy_any (HT.out.below hb04) hok (by omega)
        have HC := Lib.hid (And.intro hcopy (And.intro hself hled4))
        clear hok hself hled4 hcopy htb
        go_wp2_with fail
        refine HC.out.1.mono ?_
        rintro e w5 ⟨tv, mm, rfl, hown, hb5⟩
        have hlen := hown.len
        obtain ⟨ua, ucap, rfl, -⟩ := (Sl.of_owns hown.own).shape
        rw [hlen] at hown ⊢
        have hside : Side w w5 bp B (.slice ua T.length ucap) T :=
          ⟨HC.out.2.2.below hb5, by rw [HC.out.2.1]; exact hown.seens.rd, by have := hb1.size; omega, below_trans hb04 hb5⟩
        have HS := Lib.hid hside
        clear hown hlen hb5 hside hb3 hb4 hb1
        go_wp2
        go_loopg [9, 10] l.length (fun gk tt iv wr => ∃ (k n : Nat) (L : List (Int × List Slot)) (xa : Option Addr) (xc : Nat), k ≤ l.length ∧ gk = l.length - k ∧ k ≤ 120 ∧ iv = .int .i64 k ∧ tt = .slice xa n xc ∧ L.length ≤ 100 + k ∧ Side w wr bp B (.slice xa n xc) L)
        case atStart => exact ⟨0, T.length, T, ua, ucap, Nat.zero_le _, rfl, by omega, rfl, rfl, by omega, HS.out⟩
        case round =>
          obtain ⟨k, n, L, xa, xc, hk, rfl, hk2, rfl, rfl, hLl, hside⟩ := hrel
          clear HS
          have HS := Lib.hid hside
          have hbel := hside.below
          clear hside
          by_cases hlt : k < l.length
          · by_cases hlt2 : k < 120
            · obtain ⟨b, off, ra, rc, rfl, hb, c0, c1, c2, c3, c4, c5, hrd⟩ := HB.out k hlt
              have c0 := below_some hbel c0 hb
              have c1 := below_some hbel c1 hb
              have c2 := below_some hbel c2 hb
              have c3 := below_some hbel c3 hb
              have c4 := below_some hbel c4 hb
              have c5 := below_some hbel c5 hb
              have hrd := hrd.below hbel
              have hbk := hrd
              obtain ⟨bt, hbt⟩ : ∃ bt, l[k] = bt := ⟨_, rfl⟩
              rw [hbt] at c0 c1 c2 c3 c4 c5 hrd
              clear hbt hbk
              have hrc : ∀ q (h : q < bt.recs.length), ∃ rb ro, ra = some ⟨rb, ro, none⟩ ∧ wr.cell? ⟨rb, ro + q * 4 + 1, none⟩ = some (.string bt.recs[q].key) ∧ wr.cell? ⟨rb, ro + q * 4 + 2, none⟩ = some (.string bt.recs[q].val) := by
                intro q hq
                obtain ⟨rb, ro, _, e, _, _, _, hc⟩ := hrd.at (by omega)
                simp only [Value.slice.injEq, true_and] at e
                have hg := recCells_get bt.recs q hq
                exact ⟨rb, ro, e.1, hc (q * 4 + 1) _ hg.2.1, hc (q * 4 + 2) _ hg.2.2.1⟩
              have hrl : (bt.recs.length : Int) ≤ 9223372036854775807 := by have := hrd.maxlen; unfold maxLen at this; omega
              have HR := Lib.hid (And.intro hrc (And.intro hrd (add_same HS.out.led.ok HS.out.led.nodup bt)))
              clear hrc hrd
              obtain ⟨base, count, prod, seq, time, recs⟩ := bt
              dsimp only at c0 c1 c2 c3 c4 c5 HR hrl
              have j1 : (k : Int) < (l.length : Int) := by omega
              have j2 : (k : Int) < 120 := by omega
              have j3 : (0 : Int) ≤ (k : Int) := by omega
              by_cases h40 : 40 < recs.length
              · have j4 : (40 : Int) < (recs.length : Int) := by omega
                go_wp2
                go_ret
                exact ⟨rfl, hbel⟩
              · have j4 : ¬ (40 : Int) < (recs.length : Int) := by omega
                go_wp2
                go_loopg [11] recs.length (fun gq iv wq => ∃ q : Nat, q ≤ recs.length ∧ gq = recs.length - q ∧ iv = .int .i64 q ∧ wq = wr)
                case atStart => exact ⟨0, Nat.zero_le _, rfl, rfl, rfl⟩
                case round =>
                  obtain ⟨q, hq, rfl, rfl, rfl⟩ := hrel
                  by_cases hql : q < recs.length
                  · obtain ⟨rb, ro, rfl, r1, r2⟩ := HR.out.1 q hql
                    have j5 : (q : Int) < (recs.length : Int) := by omega
                    have j6 : (0 : Int) ≤ (q : Int) := by omega
                    generalize recs[q].key = key at *
                    generalize recs[q].val = val at *
                    by_cases hk1 : (1000 : Int) < (key.size : Int)
                    · go_wp2
                      go_ret
                      exact ⟨rfl, hbel⟩
                    · by_cases hk2 : (1000 : Int) < (val.size : Int)
                      · go_wp2
                        go_ret
                        exact ⟨rfl, hbel⟩
                      · go_wp2
                        go_roundg (recs.length - (q + 1))
                        case measure => omega
                        case rel => exact ⟨q + 1, by omega, rfl, by go_num, rfl⟩
                  · have j5 : ¬ (q : Int) < (recs.length : Int) := by omega
                    go_wp2_with fail
                    refine (R6Add_any HS.out.tab (tableS_rows HS.out.led.ok) (by rw [tableS_length]; omega) ⟨base, count, prod, seq, time, recs⟩ _ HR.out.2.1).mono ?_
                    rintro _ w6 ⟨v', rfl, htab, hb6⟩
                    obtain ⟨e1, e2, e3⟩ := HR.out.2.2
                    rw [e1] at htab ⊢
                    have hadd := LedAdd_rd (HS.out.led.below hb6) ⟨base, count, prod, seq, time, recs⟩ _ (HR.out.2.1.below hb6)
                    have hlen := addS_length (L := L) ⟨base, count, prod, seq, time, recs⟩
                    generalize addS L ⟨base, count, prod, seq, time, recs⟩ = r at *
                    generalize (addT (tableS L) ⟨base, count, prod, seq, time, recs⟩).1 = tt at *
                    obtain ⟨L', n2⟩ := r
                    dsimp only at *
                    clear e1
                    have HA := Lib.hid hadd
                    have hs6 := HS.out.next hb6
                    have H6 := Lib.hid hs6
                    have d0 := below_some hb6 c0 (World.block_lt_of_cell? _ _ c0)
                    have d1 := below_some hb6 c1 (World.block_lt_of_cell? _ _ c1)
                    have d2 := below_some hb6 c2 (World.block_lt_of_cell? _ _ c2)
                    have d3 := below_some hb6 c3 (World.block_lt_of_cell? _ _ c3)
                    have d4 := below_some hb6 c4 (World.block_lt_of_cell? _ _ c4)
                    have d5 := below_some hb6 c5 (World.block_lt_of_cell? _ _ c5)
                    clear hadd hs6
                    have hnn : (n2 != n2) = false := by simp
                    by_cases h0 : n2 = 0
                    · subst h0
                      have htab := htab rfl
                      have e2 := e2 rfl
                      subst e2
                      obtain ⟨ya, yc, rfl, -, -⟩ := htab.cells
                      have HT6 := Lib.hid htab
                      clear htab e3
                      go_wp2_with fail
                      refine HA.out.mono ?_
                      rintro _ w7 ⟨rfl, hled7, hu7⟩
                      obtain ⟨_, m6, _, _, _, hm6, _⟩ := H6.out.led.ptr
                      have hside : Side w w7 bp B (.slice ya (tableS L').length yc) L' := ⟨hled7, HT6.out.upd hu7 hm6.not_cells, H6.out.new, below_upd H6.out.below hu7 H6.out.new H6.out.below.size⟩
                      have HS7 := Lib.hid hside
                      clear hside hled7 hu7 hm6
                      go_wp2
                      go_roundg (l.length - (k + 1))
                      case measure => omega
                      case rel => exact ⟨k + 1, _, L', ya, yc, by omega, rfl, by omega, by go_num, rfl, by omega, HS7.out⟩
                    · have e3 := e3 h0
                      subst e3
                      have h0' : (n2 == 0) = false := beq_eq_false_iff_ne.2 h0
                      clear htab e2
                      go_wp2_with fail
                      refine HA.out.mono ?_
                      rintro _ w7 ⟨rfl, hled7, hu7⟩
                      obtain ⟨_, m6, _, _, _, hm6, _⟩ := H6.out.led.ptr
                      have hside : Side w w7 bp B (.slice xa n xc) L' := ⟨hled7, H6.out.tab.upd hu7 hm6.not_cells, H6.out.new, below_upd H6.out.below hu7 H6.out.new H6.out.below.size⟩
                      have HS7 := Lib.hid hside
                      clear hside hled7 hu7 hm6
                      go_wp2
                      go_roundg (l.length - (k + 1))
                      case measure => omega
                      case rel => exact ⟨k + 1, n, L', xa, xc, by omega, rfl, by omega, by go_num, rfl, by omega, HS7.out⟩
            · have j2 : ¬ (k : Int) < 120 := by omega
              have j1 : (k : Int) < (l.length : Int) := by omega
              go_wp2
              go_loopg [14] qs.length (fun gq iv wq => ∃ q : Nat, q ≤ qs.length ∧ gq = qs.length - q ∧ iv = .int .i64 q ∧ Side w wq bp B (.slice xa n xc) L)
              case atStart => exact ⟨0, Nat.zero_le _, rfl, rfl, HS.out⟩
              case round =>
                obtain ⟨q, hq, rfl, rfl, hside⟩ := hrel
                have HS2 := Lib.hid hside
                have hbe := hside.below
                clear hside
                by_cases hqq : q < qs.length
                · obtain ⟨qb, qo, rfl, hqb, p0, p1⟩ := HQ.out q hqq
                  have p0 := below_some hbe p0 hqb
                  have p1 := below_some hbe p1 hqb
                  obtain ⟨x, hx⟩ : ∃ x, qs[q].1 = x := ⟨_, rfl⟩
                  obtain ⟨y, hy⟩ : ∃ y, qs[q].2 = y := ⟨_, rfl⟩
                  rw [hx] at p0
                  rw [hy] at p1
                  clear hx hy
                  have k1 : (q : Int) < (qs.length : Int) := by omega
                  have k2 : (0 : Int) ≤ (q : Int) := by omega
                  have hzq := hbe.size
                  have hqb' : qb < wr.heap.size := by omega
                  have hkeep : ∀ w', Below wr.heap.size wr w' → w'.cell? ⟨qb, qo + q * 2, none⟩ = some (.int .i64 x) ∧ w'.cell? ⟨qb, qo + q * 2 + 1, none⟩ = some (.int .i64 y) :=
                    fun w' h => ⟨below_some h p0 hqb', below_some h p1 hqb'⟩
                  have hck : ∀ w', Below wr.heap.size wr w' → Calls Try.prog 9 #[.pointer (some ⟨bp, 0, none⟩), .int .i64 x, .int .i64 y] w' fun e w'' =>
                      e = .returned (.tuple #[.agg #[.int .i64 (checkS (rowOf L x) x y).1.seq, .int .i64 (checkS (rowOf L x) x y).1.base, .int .i64 (checkS (rowOf L x) x y).1.fin], .int .i64 (checkS (rowOf L x) x y).2]) ∧ Below w'.heap.size w' w'' ∧ Below wr.heap.size wr w'' := by
                    intro w' h
                    exact (check_agg (HS2.out.led.below h) x y).mono fun e w'' ⟨a1, a2⟩ => ⟨a1, a2, h.trans (a2.mono h.size)⟩
                  have hck2 : ∀ w', Side w w' bp B (.slice xa n xc) L → Calls Try.prog 17 #[.slice xa n xc, .int .i64 x, .int .i64 y] w' fun e w'' =>
                      e = .returned (.tuple #[.agg #[.int .i64 (checkS (rowOf L x) x y).1.seq, .int .i64 (checkS (rowOf L x) x y).1.base, .int .i64 (checkS (rowOf L x) x y).1.fin], .int .i64 (checkS (rowOf L x) x y).2]) ∧ Below w'.heap.size w' w'' := by
                    intro w' h
                    have := R6Check_agg h.tab (by
                      intro z hz
                      obtain ⟨j, hj, rfl⟩ := List.getElem_of_mem hz
                      exact tableS_rows h.led.ok j hj) x y
                    rw [rowOf_tableS] at this
                    exact this
                  generalize checkS (rowOf L x) x y = cc at *
                  obtain ⟨⟨z0, z1, z2⟩, z3⟩ := cc
                  dsimp only at hck hck2
                  have KEP := Lib.hid hkeep
                  have HCK := Lib.hid hck
                  have HCK2 := Lib.hid hck2
                  clear hkeep hck hck2
                  go_wp2
                  go_cut [15, 16] from 121 to 164 (fun s15 s16 wx => ∃ xb : Nat, s15 = .pointer (some ⟨xb, 0, none⟩) ∧ s16 = .int .i64 z3 ∧ SlotIn wx xb z0 z1 z2 ∧ Side w wx bp B (.slice xa n xc) L ∧ wx.cell? ⟨qb, qo + q * 2, none⟩ = some (.int .i64 x) ∧ wx.cell? ⟨qb, qo + q * 2 + 1, none⟩ = some (.int .i64 y))
                  case first =>
                    go_region_held3 (fun w' => w'.cell? ⟨qb, qo + q * 2, none⟩ = some (.int .i64 x) ∧ w'.cell? ⟨qb, qo + q * 2 + 1, none⟩ = some (.int .i64 y))
                      (first | with_reducible exact ⟨p0, p1⟩ | with_reducible exact KEP.out _ (Below.refl _ _).drew | with_reducible exact KEP.out _ (below_alloc _ _) | with_reducible exact KEP.out _ (below_alloc _ _).drew | (have hg := hbw; first | with_reducible exact KEP.out _ hbw | with_reducible exact KEP.out _ (hbw.alloc hbw.size _) | with_reducible exact KEP.out _ ((((hbw.setCell (Nat.le_refl _) _).setCell (Nat.le_refl _) _).setCell (Nat.le_refl _) _)) | with_reducible exact KEP.out _ (((hbw.setCell (Nat.le_refl _) _).setCell (Nat.le_refl _) _)) | with_reducible exact KEP.out _ (hbw.setCell (Nat.le_refl _) _)))
                      (first
                        | (go_at_call 9; refine (HCK.out _ ?_).mono ?_; (first | with_reducible exact (Below.refl _ _).drew | with_reducible exact ((Below.refl _ _).alloc (Nat.le_refl _) _).drew | with_reducible exact Below.refl _ _ | with_reducible exact (Below.refl _ _).alloc (Nat.le_refl _) _); rintro e w2 ⟨rfl, hb2, hbw⟩; have hs2 := hb2.size; simp only [World.size_alloc, World.size_drew] at hs2; obtain ⟨hc2, hf2⟩ := bcell hb2))
                    · go_wp2_with fail
                      go_meet
                      have kk := KEP.out _ (hbw.alloc hbw.size (.cells #[.int .i64 z0, .int .i64 z1, .int .i64 z2] 32))
                      exact ⟨_, rfl, rfl, SlotIn.of (heap_alloc_new w2 _), HS2.out.next (hbw.alloc hbw.size _), kk.1, kk.2⟩
                    · have hb0 := (hb2.block wr.heap.size (by simp)).trans (heap_alloc_new wr (.cells #[.int .i64 0, .int .i64 0, .int .i64 0] 32))
                      have hbz : Below wr.heap.size wr (((w2.setCell ⟨wr.heap.size, 0, none⟩ (.int .i64 z0)).setCell ⟨wr.heap.size, 1, none⟩ (.int .i64 z1)).setCell ⟨wr.heap.size, 2, none⟩ (.int .i64 z2)) := ((hbw.setCell (Nat.le_refl _) _).setCell (Nat.le_refl _) _).setCell (Nat.le_refl _) _
                      have kk := KEP.out _ hbz
                      go_wp2_with fail
                      go_meet
                      exact ⟨_, rfl, rfl, SlotIn.of (setCell_same (setCell_same (setCell_same hb0))), HS2.out.next hbz, kk.1, kk.2⟩
                  case rest =>
                    obtain ⟨xb, rfl, rfl, hxb, hside3, p0, p1⟩ := hcut
                    have hqb' : qb < wc.heap.size := World.block_lt_of_cell? _ _ p0
                    have hkeep : ∀ w', Below wc.heap.size wc w' → w'.cell? ⟨qb, qo + q * 2, none⟩ = some (.int .i64 x) ∧ w'.cell? ⟨qb, qo + q * 2 + 1, none⟩ = some (.int .i64 y) :=
                      fun w' h => ⟨below_some h p0 hqb', below_some h p1 hqb'⟩
                    have hck3 := fun w' (h : Below wc.heap.size wc w') => (HCK2.out w' (hside3.next h)).mono fun e w'' (a : e = .returned (.tuple #[.agg #[.int .i64 z0, .int .i64 z1, .int .i64 z2], .int .i64 z3]) ∧ Below w'.heap.size w' w'') => (⟨a.1, a.2, h.trans (a.2.mono h.size)⟩ : e = .returned (.tuple #[.agg #[.int .i64 z0, .int .i64 z1, .int .i64 z2], .int .i64 z3]) ∧ Below w'.heap.size w' w'' ∧ Below wc.heap.size wc w'')
                    have KEP := Lib.hid hkeep
                    have HCK3 := Lib.hid hck3
                    have HS3 := Lib.hid (And.intro hside3 hxb)
                    clear hkeep hck3 hside3 hxb HCK HCK2
                    go_wp2
                    go_cut [17, 18] from 121 to 164 (fun s17 s18 wx => ∃ yb : Nat, s17 = .pointer (some ⟨yb, 0, none⟩) ∧ s18 = .int .i64 z3 ∧ SlotIn wx yb z0 z1 z2 ∧ SlotIn wx xb z0 z1 z2 ∧ Side w wx bp B (.slice xa n xc) L)
                    case first =>
                      go_region_held3 (fun w' => w'.cell? ⟨qb, qo + q * 2, none⟩ = some (.int .i64 x) ∧ w'.cell? ⟨qb, qo + q * 2 + 1, none⟩ = some (.int .i64 y))
                        (first | with_reducible exact ⟨p0, p1⟩ | with_reducible exact KEP.out _ (Below.refl _ _).drew | with_reducible exact KEP.out _ (below_alloc _ _) | with_reducible exact KEP.out _ (below_alloc _ _).drew | (have hg := hbw; first | with_reducible exact KEP.out _ hbw | with_reducible exact KEP.out _ (hbw.alloc hbw.size _) | with_reducible exact KEP.out _ ((((hbw.setCell (Nat.le_refl _) _).setCell (Nat.le_refl _) _).setCell (Nat.le_refl _) _)) | with_reducible exact KEP.out _ (((hbw.setCell (Nat.le_refl _) _).setCell (Nat.le_refl _) _)) | with_reducible exact KEP.out _ (hbw.setCell (Nat.le_refl _) _)))
                        (first
                          | (go_at_call 17; refine (HCK3.out _ ?_).mono ?_; (first | with_reducible exact (Below.refl _ _).drew | with_reducible exact ((Below.refl _ _).alloc (Nat.le_refl _) _).drew | with_reducible exact Below.refl _ _ | with_reducible exact (Below.refl _ _).alloc (Nat.le_refl _) _); rintro e w2 ⟨rfl, hb2, hbw⟩; have hs2 := hb2.size; simp only [World.size_alloc, World.size_drew] at hs2; obtain ⟨hc2, hf2⟩ := bcell hb2))
                      · go_wp2_with fail
                        go_meet
                        exact ⟨_, rfl, rfl, SlotIn.of (heap_alloc_new w2 _), HS3.out.2.below (hbw.alloc hbw.size _), HS3.out.1.next (hbw.alloc hbw.size _)⟩
                      · have hb0 := (hb2.block wc.heap.size (by simp)).trans (heap_alloc_new wc (.cells #[.int .i64 0, .int .i64 0, .int .i64 0] 32))
                        have hbz : Below wc.heap.size wc (((w2.setCell ⟨wc.heap.size, 0, none⟩ (.int .i64 z0)).setCell ⟨wc.heap.size, 1, none⟩ (.int .i64 z1)).setCell ⟨wc.heap.size, 2, none⟩ (.int .i64 z2)) := ((hbw.setCell (Nat.le_refl _) _).setCell (Nat.le_refl _) _).setCell (Nat.le_refl _) _
                        go_wp2_with fail
                        go_meet
                        exact ⟨_, rfl, rfl, SlotIn.of (setCell_same (setCell_same (setCell_same hb0))), HS3.out.2.below hbz, HS3.out.1.next hbz⟩
                    case rest =>
                      obtain ⟨yb, rfl, rfl, ⟨hy, y0, y1, y2⟩, ⟨hx, x0, x1, x2⟩, hside4⟩ := hcut
                      have H4 := Lib.hid hside4
                      clear hside4
                      have hnn : (z3 != z3) = false := by simp
                      go_wp2
                      go_roundg (qs.length - (q + 1))
                      case measure => omega
                      case rel => exact ⟨q + 1, by omega, rfl, by go_num, H4.out⟩
                · have k1 : ¬ (q : Int) < (qs.length : Int) := by omega
                  go_wp2_with fail
                  refine (LedTable_any HS2.out.led (by omega)).mono ?_
                  rintro _ w8 ⟨tv, rfl, hseen, hb8⟩
                  go_wp2_with fail
                  refine (R6Same_eq hseen.rd (HS2.out.next hb8).tab).mono ?_
                  rintro _ w9 ⟨rfl, hb9⟩
                  go_wp2
                  go_ret
                  exact ⟨rfl, (HS2.out.next hb8).below.trans (hb9.mono (HS2.out.next hb8).below.size)⟩
          · have j1 : ¬ (k : Int) < (l.length : Int) := by omega
            go_wp2
            go_loopg [14] qs.length (fun gq iv wq => ∃ q : Nat, q ≤ qs.length ∧ gq = qs.length - q ∧ iv = .int .i64 q ∧ Side w wq bp B (.slice xa n xc) L)
            case atStart => exact ⟨0, Nat.zero_le _, rfl, rfl, HS.out⟩
            case round =>
              obtain ⟨q, hq, rfl, rfl, hside⟩ := hrel
              have HS2 := Lib.hid hside
              have hbe := hside.below
              clear hside
              by_cases hqq : q < qs.length
              · obtain ⟨qb, qo, rfl, hqb, p0, p1⟩ := HQ.out q hqq
                have p0 := below_some hbe p0 hqb
                have p1 := below_some hbe p1 hqb
                obtain ⟨x, hx⟩ : ∃ x, qs[q].1 = x := ⟨_, rfl⟩
                obtain ⟨y, hy⟩ : ∃ y, qs[q].2 = y := ⟨_, rfl⟩
                rw [hx] at p0
                rw [hy] at p1
                clear hx hy
                have k1 : (q : Int) < (qs.length : Int) := by omega
                have k2 : (0 : Int) ≤ (q : Int) := by omega
                have hzq := hbe.size
                have hqb' : qb < wr.heap.size := by omega
                have hkeep : ∀ w', Below wr.heap.size wr w' → w'.cell? ⟨qb, qo + q * 2, none⟩ = some (.int .i64 x) ∧ w'.cell? ⟨qb, qo + q * 2 + 1, none⟩ = some (.int .i64 y) :=
                  fun w' h => ⟨below_some h p0 hqb', below_some h p1 hqb'⟩
                have hck : ∀ w', Below wr.heap.size wr w' → Calls Try.prog 9 #[.pointer (some ⟨bp, 0, none⟩), .int .i64 x, .int .i64 y] w' fun e w'' =>
                    e = .returned (.tuple #[.agg #[.int .i64 (checkS (rowOf L x) x y).1.seq, .int .i64 (checkS (rowOf L x) x y).1.base, .int .i64 (checkS (rowOf L x) x y).1.fin], .int .i64 (checkS (rowOf L x) x y).2]) ∧ Below w'.heap.size w' w'' ∧ Below wr.heap.size wr w'' := by
                  intro w' h
                  exact (check_agg (HS2.out.led.below h) x y).mono fun e w'' ⟨a1, a2⟩ => ⟨a1, a2, h.trans (a2.mono h.size)⟩
                have hck2 : ∀ w', Side w w' bp B (.slice xa n xc) L → Calls Try.prog 17 #[.slice xa n xc, .int .i64 x, .int .i64 y] w' fun e w'' =>
                    e = .returned (.tuple #[.agg #[.int .i64 (checkS (rowOf L x) x y).1.seq, .int .i64 (checkS (rowOf L x) x y).1.base, .int .i64 (checkS (rowOf L x) x y).1.fin], .int .i64 (checkS (rowOf L x) x y).2]) ∧ Below w'.heap.size w' w'' := by
                  intro w' h
                  have := R6Check_agg h.tab (by
                    intro z hz
                    obtain ⟨j, hj, rfl⟩ := List.getElem_of_mem hz
                    exact tableS_rows h.led.ok j hj) x y
                  rw [rowOf_tableS] at this
                  exact this
                generalize checkS (rowOf L x) x y = cc at *
                obtain ⟨⟨z0, z1, z2⟩, z3⟩ := cc
                dsimp only at hck hck2
                have KEP := Lib.hid hkeep
                have HCK := Lib.hid hck
                have HCK2 := Lib.hid hck2
                clear hkeep hck hck2
                go_wp2
                go_cut [15, 16] from 121 to 164 (fun s15 s16 wx => ∃ xb : Nat, s15 = .pointer (some ⟨xb, 0, none⟩) ∧ s16 = .int .i64 z3 ∧ SlotIn wx xb z0 z1 z2 ∧ Side w wx bp B (.slice xa n xc) L ∧ wx.cell? ⟨qb, qo + q * 2, none⟩ = some (.int .i64 x) ∧ wx.cell? ⟨qb, qo + q * 2 + 1, none⟩ = some (.int .i64 y))
                case first =>
                  go_region_held3 (fun w' => w'.cell? ⟨qb, qo + q * 2, none⟩ = some (.int .i64 x) ∧ w'.cell? ⟨qb, qo + q * 2 + 1, none⟩ = some (.int .i64 y))
                    (first | with_reducible exact ⟨p0, p1⟩ | with_reducible exact KEP.out _ (Below.refl _ _).drew | with_reducible exact KEP.out _ (below_alloc _ _) | with_reducible exact KEP.out _ (below_alloc _ _).drew | (have hg := hbw; first | with_reducible exact KEP.out _ hbw | with_reducible exact KEP.out _ (hbw.alloc hbw.size _) | with_reducible exact KEP.out _ ((((hbw.setCell (Nat.le_refl _) _).setCell (Nat.le_refl _) _).setCell (Nat.le_refl _) _)) | with_reducible exact KEP.out _ (((hbw.setCell (Nat.le_refl _) _).setCell (Nat.le_refl _) _)) | with_reducible exact KEP.out _ (hbw.setCell (Nat.le_refl _) _)))
                    (first
                      | (go_at_call 9; refine (HCK.out _ ?_).mono ?_; (first | with_reducible exact (Below.refl _ _).drew | with_reducible exact ((Below.refl _ _).alloc (Nat.le_refl _) _).drew | with_reducible exact Below.refl _ _ | with_reducible exact (Below.refl _ _).alloc (Nat.le_refl _) _); rintro e w2 ⟨rfl, hb2, hbw⟩; have hs2 := hb2.size; simp only [World.size_alloc, World.size_drew] at hs2; obtain ⟨hc2, hf2⟩ := bcell hb2))
                  · go_wp2_with fail
                    go_meet
                    have kk := KEP.out _ (hbw.alloc hbw.size (.cells #[.int .i64 z0, .int .i64 z1, .int .i64 z2] 32))
                    exact ⟨_, rfl, rfl, SlotIn.of (heap_alloc_new w2 _), HS2.out.next (hbw.alloc hbw.size _), kk.1, kk.2⟩
                  · have hb0 := (hb2.block wr.heap.size (by simp)).trans (heap_alloc_new wr (.cells #[.int .i64 0, .int .i64 0, .int .i64 0] 32))
                    have hbz : Below wr.heap.size wr (((w2.setCell ⟨wr.heap.size, 0, none⟩ (.int .i64 z0)).setCell ⟨wr.heap.size, 1, none⟩ (.int .i64 z1)).setCell ⟨wr.heap.size, 2, none⟩ (.int .i64 z2)) := ((hbw.setCell (Nat.le_refl _) _).setCell (Nat.le_refl _) _).setCell (Nat.le_refl _) _
                    have kk := KEP.out _ hbz
                    go_wp2_with fail
                    go_meet
                    exact ⟨_, rfl, rfl, SlotIn.of (setCell_same (setCell_same (setCell_same hb0))), HS2.out.next hbz, kk.1, kk.2⟩
                case rest =>
                  obtain ⟨xb, rfl, rfl, hxb, hside3, p0, p1⟩ := hcut
                  have hqb' : qb < wc.heap.size := World.block_lt_of_cell? _ _ p0
                  have hkeep : ∀ w', Below wc.heap.size wc w' → w'.cell? ⟨qb, qo + q * 2, none⟩ = some (.int .i64 x) ∧ w'.cell? ⟨qb, qo + q * 2 + 1, none⟩ = some (.int .i64 y) :=
                    fun w' h => ⟨below_some h p0 hqb', below_some h p1 hqb'⟩
                  have hck3 := fun w' (h : Below wc.heap.size wc w') => (HCK2.out w' (hside3.next h)).mono fun e w'' (a : e = .returned (.tuple #[.agg #[.int .i64 z0, .int .i64 z1, .int .i64 z2], .int .i64 z3]) ∧ Below w'.heap.size w' w'') => (⟨a.1, a.2, h.trans (a.2.mono h.size)⟩ : e = .returned (.tuple #[.agg #[.int .i64 z0, .int .i64 z1, .int .i64 z2], .int .i64 z3]) ∧ Below w'.heap.size w' w'' ∧ Below wc.heap.size wc w'')
                  have KEP := Lib.hid hkeep
                  have HCK3 := Lib.hid hck3
                  have HS3 := Lib.hid (And.intro hside3 hxb)
                  clear hkeep hck3 hside3 hxb HCK HCK2
                  go_wp2
                  go_cut [17, 18] from 121 to 164 (fun s17 s18 wx => ∃ yb : Nat, s17 = .pointer (some ⟨yb, 0, none⟩) ∧ s18 = .int .i64 z3 ∧ SlotIn wx yb z0 z1 z2 ∧ SlotIn wx xb z0 z1 z2 ∧ Side w wx bp B (.slice xa n xc) L)
                  case first =>
                    go_region_held3 (fun w' => w'.cell? ⟨qb, qo + q * 2, none⟩ = some (.int .i64 x) ∧ w'.cell? ⟨qb, qo + q * 2 + 1, none⟩ = some (.int .i64 y))
                      (first | with_reducible exact ⟨p0, p1⟩ | with_reducible exact KEP.out _ (Below.refl _ _).drew | with_reducible exact KEP.out _ (below_alloc _ _) | with_reducible exact KEP.out _ (below_alloc _ _).drew | (have hg := hbw; first | with_reducible exact KEP.out _ hbw | with_reducible exact KEP.out _ (hbw.alloc hbw.size _) | with_reducible exact KEP.out _ ((((hbw.setCell (Nat.le_refl _) _).setCell (Nat.le_refl _) _).setCell (Nat.le_refl _) _)) | with_reducible exact KEP.out _ (((hbw.setCell (Nat.le_refl _) _).setCell (Nat.le_refl _) _)) | with_reducible exact KEP.out _ (hbw.setCell (Nat.le_refl _) _)))
                      (first
                        | (go_at_call 17; refine (HCK3.out _ ?_).mono ?_; (first | with_reducible exact (Below.refl _ _).drew | with_reducible exact ((Below.refl _ _).alloc (Nat.le_refl _) _).drew | with_reducible exact Below.refl _ _ | with_reducible exact (Below.refl _ _).alloc (Nat.le_refl _) _); rintro e w2 ⟨rfl, hb2, hbw⟩; have hs2 := hb2.size; simp only [World.size_alloc, World.size_drew] at hs2; obtain ⟨hc2, hf2⟩ := bcell hb2))
                    · go_wp2_with fail
                      go_meet
                      exact ⟨_, rfl, rfl, SlotIn.of (heap_alloc_new w2 _), HS3.out.2.below (hbw.alloc hbw.size _), HS3.out.1.next (hbw.alloc hbw.size _)⟩
                    · have hb0 := (hb2.block wc.heap.size (by simp)).trans (heap_alloc_new wc (.cells #[.int .i64 0, .int .i64 0, .int .i64 0] 32))
                      have hbz : Below wc.heap.size wc (((w2.setCell ⟨wc.heap.size, 0, none⟩ (.int .i64 z0)).setCell ⟨wc.heap.size, 1, none⟩ (.int .i64 z1)).setCell ⟨wc.heap.size, 2, none⟩ (.int .i64 z2)) := ((hbw.setCell (Nat.le_refl _) _).setCell (Nat.le_refl _) _).setCell (Nat.le_refl _) _
                      go_wp2_with fail
                      go_meet
                      exact ⟨_, rfl, rfl, SlotIn.of (setCell_same (setCell_same (setCell_same hb0))), HS3.out.2.below hbz, HS3.out.1.next hbz⟩
                  case rest =>
                    obtain ⟨yb, rfl, rfl, ⟨hy, y0, y1, y2⟩, ⟨hx, x0, x1, x2⟩, hside4⟩ := hcut
                    have H4 := Lib.hid hside4
                    clear hside4
                    have hnn : (z3 != z3) = false := by simp
                    go_wp2
                    go_roundg (qs.length - (q + 1))
                    case measure => omega
                    case rel => exact ⟨q + 1, by omega, rfl, by go_num, H4.out⟩
              · have k1 : ¬ (q : Int) < (qs.length : Int) := by omega
                go_wp2_with fail
                refine (LedTable_any HS2.out.led (by omega)).mono ?_
                rintro _ w8 ⟨tv, rfl, hseen, hb8⟩
                go_wp2_with fail
                refine (R6Same_eq hseen.rd (HS2.out.next hb8).tab).mono ?_
                rintro _ w9 ⟨rfl, hb9⟩
                go_wp2
                go_ret
                exact ⟨rfl, (HS2.out.next hb8).below.trans (hb9.mono (HS2.out.next hb8).below.size)⟩
end Go.Proofs.Ytcgjhifcocmdaaa
