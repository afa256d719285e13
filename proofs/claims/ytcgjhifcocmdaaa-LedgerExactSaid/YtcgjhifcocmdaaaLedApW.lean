/- The walk of LedgerApart. -/
import Derived.Test.YtcgjhifcocmdaaaLedAp
namespace Go.Proofs.Ytcgjhifcocmdaaa
open Go.RowKit

theorem batch_any2 (p s b : Int) (w : World) : Calls Try.prog 11 #[.int .i64 p, .int .i64 s, .int .i64 b] w fun e w' =>
    e = .returned (.agg #[.int .i64 b, .int .i64 1, .int .i64 p, .int .i64 s, .int .i64 0, .slice (some ⟨w.heap.size + 1, 0, none⟩) 1 1]) ∧
    Sl w' 50 4 (.slice (some ⟨w.heap.size + 1, 0, none⟩) 1 1) 1 (recCells [⟨b, ByteArray.empty, ByteArray.empty, false⟩]) ∧ Below w.heap.size w w' := batch_any p s b w

theorem batch_any3 (p s b : Int) (w wr : World) (h0 : Below wr.heap.size wr w) : Calls Try.prog 11 #[.int .i64 p, .int .i64 s, .int .i64 b] w fun e w' =>
    e = .returned (.agg #[.int .i64 b, .int .i64 1, .int .i64 p, .int .i64 s, .int .i64 0, .slice (some ⟨w.heap.size + 1, 0, none⟩) 1 1]) ∧
    Sl w' 50 4 (.slice (some ⟨w.heap.size + 1, 0, none⟩) 1 1) 1 (recCells [⟨b, ByteArray.empty, ByteArray.empty, false⟩]) ∧ Below w.heap.size w w' ∧ Below wr.heap.size wr w' :=
  (batch_any p s b w).mono fun e w' ⟨h1, h2, h3⟩ => ⟨h1, h2, h3, below_trans h0 h3⟩

theorem check_agg {w : World} {v : Value} {B : Nat} {L : List (Int × List Slot)} (h : LedAt w v B L) (p s : Int) :
    Calls Try.prog 9 #[v, .int .i64 p, .int .i64 s] w fun e w' =>
      e = .returned (.tuple #[.agg #[.int .i64 (checkS (rowOf L p) p s).1.seq, .int .i64 (checkS (rowOf L p) p s).1.base, .int .i64 (checkS (rowOf L p) p s).1.fin], .int .i64 (checkS (rowOf L p) p s).2]) ∧ Below w.heap.size w w' :=
  LedCheck_any h p s

set_option maxRecDepth 100000 in
set_option maxHeartbeats 2000000 in
theorem Apart_any {w : World} {v : Value} {l : List (Int × Int)} (h : PairsAt w v l) (z : Int) :
    Calls Try.prog 4 #[v, .int .i64 z] w fun e w' => e = .returned (.bool true) ∧ Below w.heap.size w w' := by
  obtain ⟨a, cap, rfl, hl, hc⟩ := h
  have HC := Lib.hid hc
  clear hc
  have hl' : (l.length : Int) ≤ 9223372036854775807 := by omega
  clear hl
  obtain ⟨who, hwho, hw4⟩ := u64mod z 4 (by omega) (by omega)
  have hwho : wrap64 ((IntKind.u64.wrap z).tmod 4) = who := hwho
  go_enter Try.func4, Try.ntmps4
  go_wp2_with fail
  refine (awake_any _).mono ?_
  rintro e w1 ⟨rfl, hb1⟩
  go_wp2_with fail
  refine (LedNew_any _).mono ?_
  rintro e w2 ⟨rfl, rfl⟩
  go_wp2_with fail
  refine (LedNew_any _).mono ?_
  rintro e w2 ⟨rfl, rfl⟩
  go_wp2
  have hN := hb1.size
  have hw4' : (who : Int) < 4 := by omega
  go_loopw [7] (fun i wr => ∃ (k : Nat) (Ll Lk : List (Int × List Slot)), k ≤ l.length ∧ k ≤ 120 ∧ i = .int .i64 k ∧ Two wr w1.heap.size Ll Lk who ∧ Below w.heap.size w wr) (fun i _ => l.length - (intOf i).toNat)
  case atStart =>
    refine ⟨0, [], [], Nat.zero_le _, by omega, rfl, ⟨?_, ?_, by intro x hx; simp at hx, by intro x hx; simp at hx, rfl⟩, ?_⟩
    · exact (LedAt.fresh w1).below (below_alloc2 ((w1.alloc (.map #[] 0)).alloc (.cells #[.map (some w1.heap.size)] 62)) _ _)
    · have := LedAt.fresh ((w1.alloc (.map #[] 0)).alloc (.cells #[.map (some w1.heap.size)] 62))
      simpa using this
    · exact hb1.trans ((((below_alloc2 w1 _ _).alloc (by simp; omega) _).alloc (by simp; omega) _).mono hN)
  case round =>
    obtain ⟨k, Ll, Lk, hk, hk2, rfl, htwo, hbel⟩ := hrel
    have HS := Lib.hid htwo
    clear htwo
    have hsz := hbel.size
    by_cases hlt : k < l.length
    · by_cases hlt2 : k < 120
      · obtain ⟨b, off, rfl, hb, c0, c1⟩ := HC.out k hlt
        have c0 := below_some hbel c0 hb
        have c1 := below_some hbel c1 hb
        generalize l[k].1 = x at *
        generalize l[k].2 = y at *
        obtain ⟨p, hp, hp4⟩ := u64mod x 4 (by omega) (by omega)
        obtain ⟨s, hs, hs40⟩ := u64mod y 20 (by omega) (by omega)
        have hp : wrap64 ((IntKind.u64.wrap x).tmod 4) = p := hp
        have hs : wrap64 ((IntKind.u64.wrap y).tmod 20) = s := hs
        have hp' : IntKind.i64.wrap ((IntKind.u64.wrap x).tmod 4) = p := (IntWalk.i64_left _).trans hp
        have hs' : IntKind.i64.wrap ((IntKind.u64.wrap y).tmod 20) = s := (IntWalk.i64_left _).trans hs
        have i1 : (k : Int) < (l.length : Int) := by omega
        have i2 : (k : Int) < 120 := by omega
        have i3 : (0 : Int) ≤ (k : Int) := by omega
        have hbr : b < wr.heap.size := by omega
        go_wp2
        go_region_held3 (fun w' => w'.cell? ⟨b, off + k * 2, none⟩ = some (.int .i64 x) ∧ w'.cell? ⟨b, off + k * 2 + 1, none⟩ = some (.int .i64 y))
          (first | with_reducible exact ⟨c0, c1⟩ | with_reducible exact ⟨below_some ((Below.refl wr.heap.size wr).drew) c0 hbr, below_some ((Below.refl wr.heap.size wr).drew) c1 hbr⟩ | with_reducible exact ⟨below_some (below_alloc wr _) c0 hbr, below_some (below_alloc wr _) c1 hbr⟩ | with_reducible exact ⟨below_some ((below_alloc wr _).drew) c0 hbr, below_some ((below_alloc wr _).drew) c1 hbr⟩ | (have hg := hbw; first | with_reducible exact ⟨below_some hbw c0 hbr, below_some hbw c1 hbr⟩ | with_reducible exact ⟨below_some (hbw.alloc hbw.size _) c0 hbr, below_some (hbw.alloc hbw.size _) c1 hbr⟩ | with_reducible exact ⟨below_some ((((((hbw.setCell (Nat.le_refl _) _).setCell (Nat.le_refl _) _).setCell (Nat.le_refl _) _).setCell (Nat.le_refl _) _).setCell (Nat.le_refl _) _).setCell (Nat.le_refl _) _) c0 hbr, below_some ((((((hbw.setCell (Nat.le_refl _) _).setCell (Nat.le_refl _) _).setCell (Nat.le_refl _) _).setCell (Nat.le_refl _) _).setCell (Nat.le_refl _) _).setCell (Nat.le_refl _) _) c1 hbr⟩))
          (first
            | (go_at_call 11; refine (batch_any3 _ _ _ _ wr ?_).mono ?_; (first | with_reducible exact (Below.refl _ _).drew | with_reducible exact ((Below.refl _ _).alloc (Nat.le_refl _) _).drew); rintro e w2 ⟨rfl, hrec, hb2, hbw⟩; have hs2 := hb2.size; simp only [World.size_alloc, World.size_drew] at hs2 hrec; obtain ⟨hc2, hf2⟩ := bcell hb2))
        · have hst2 := HS.out.below hbw
          have s1 := hbw.size
          obtain ⟨sb, hsb⟩ : ∃ sb, sb = wr.heap.size + 1 := ⟨_, rfl⟩
          rw [← hsb] at hrec ⊢
          have hbx := heap_alloc_new w2 (.cells #[.int .i64 k, .int .i64 1, .int .i64 p, .int .i64 s, .int .i64 0, .slice (some ⟨sb, 0, none⟩) 1 1] 39)
          have htw := hst2.below (below_alloc w2 (.cells #[.int .i64 k, .int .i64 1, .int .i64 p, .int .i64 s, .int .i64 0, .slice (some ⟨sb, 0, none⟩) 1 1] 39))
          have hbW := (hbel.trans (hbw.mono hsz)).trans ((below_alloc w2 (.cells #[.int .i64 k, .int .i64 1, .int .i64 p, .int .i64 s, .int .i64 0, .slice (some ⟨sb, 0, none⟩) 1 1] 39)).mono (Nat.le_trans hsz s1))
          have hrW := hrec.below (below_alloc w2 (.cells #[.int .i64 k, .int .i64 1, .int .i64 p, .int .i64 s, .int .i64 0, .slice (some ⟨sb, 0, none⟩) 1 1] 39))
          generalize hWe : w2.alloc (.cells #[.int .i64 k, .int .i64 1, .int .i64 p, .int .i64 s, .int .i64 0, .slice (some ⟨sb, 0, none⟩) 1 1] 39) = W at *
          have htbN : wr.heap.size ≤ w2.heap.size := s1
          generalize w2.heap.size = tb at *
          clear hWe hsb
          clear hc2 hf2 hb2 hbw
          have HB := Lib.hid (And.intro hbx (And.intro htw (And.intro hbW hrW)))
          have t0 : W.cell? ⟨tb, 0, none⟩ = some (.int .i64 k) := by rw [cell_of_row W _ _ _ _ _ hbx]; rfl
          have t1 : W.cell? ⟨tb, 1, none⟩ = some (.int .i64 1) := by rw [cell_of_row W _ _ _ _ _ hbx]; rfl
          have t2 : W.cell? ⟨tb, 2, none⟩ = some (.int .i64 p) := by rw [cell_of_row W _ _ _ _ _ hbx]; rfl
          have t3 : W.cell? ⟨tb, 3, none⟩ = some (.int .i64 s) := by rw [cell_of_row W _ _ _ _ _ hbx]; rfl
          have t4 : W.cell? ⟨tb, 4, none⟩ = some (.int .i64 0) := by rw [cell_of_row W _ _ _ _ _ hbx]; rfl
          have t5 : W.cell? ⟨tb, 5, none⟩ = some (.slice (some ⟨sb, 0, none⟩) 1 1) := by rw [cell_of_row W _ _ _ _ _ hbx]; rfl
          clear hbx htw hbW hrW
          go_wp2_with fail
          refine (LedAdd_any HB.out.2.1.atl (bat p s k) _ HB.out.2.2.2).mono ?_
          rintro _ w3 ⟨rfl, hl3, hu3⟩
          have hNW : w1.heap.size + 4 ≤ tb := by
            obtain ⟨bp, _, e, _, hcc, _⟩ := HS.out.atk.ptr
            obtain rfl : w1.heap.size + 3 = bp := by simpa using e
            have := World.block_lt_of_cell? wr _ hcc
            simp only at this
            omega
          have u := fun o v (h : W.cell? ⟨tb, o, none⟩ = some v) => upd_some hu3 h (by omega)
          have s0 := u 0 _ t0
          have s1' := u 1 _ t1
          have s2' := u 2 _ t2
          have s3' := u 3 _ t3
          have s4' := u 4 _ t4
          have s5' := u 5 _ t5
          have hb3 : Below w.heap.size w w3 := below_upd HB.out.2.2.1 hu3 hN (by have := HB.out.2.2.1.size; omega)
          have HL := Lib.hid (And.intro hl3 (And.intro hu3 hb3))
          clear u hl3 hu3 hb3
          by_cases hpw : p = who
          · subst hpw
            have hrec3 := HB.out.2.2.2.keptT HL.out.2.1 (fun q cur fz hq e => by have := HB.out.2.1.atl.ptr; obtain ⟨_, m, _, _, _, hm, _⟩ := this; exact hm.not_cells q cur _ fz hq e)
            obtain ⟨_, mm, _, _, _, hmm, _⟩ := HB.out.2.1.atl.ptr
            have hk3 := HB.out.2.1.atk.kept HL.out.2.1 (by omega) hmm.not_cells
            have HR := Lib.hid (And.intro hrec3 hk3)
            clear hrec3 hk3 hmm
            have hpp : ((p : Int) == (p : Int)) = true := by simp
            go_wp2_with fail
            refine (LedAdd_any HR.out.2 (bat p s k) _ HR.out.1).mono ?_
            rintro _ w4 ⟨rfl, hk4, hu4⟩
            have hboth := HB.out.2.1.both hw4 HL.out.2.1 HL.out.1 hu4 hk4
            have hb4 : Below w.heap.size w w4 := below_upd HL.out.2.2 hu4 (by omega) (by have := HL.out.2.2.size; omega)
            have heq := hboth.2
            generalize (addS Lk (bat p s k)).2 = n2 at *
            have H4 := Lib.hid (And.intro hboth.1 (And.intro hb4 heq))
            clear hboth hb4 hk4 hu4
            subst heq
            have hnn : ((addS Ll (bat p s k)).2 != (addS Ll (bat p s k)).2) = false := by simp
            go_wp2
            go_roundw
            case rel => exact ⟨k + 1, _, _, by omega, by omega, by go_num, H4.out.1, H4.out.2.1⟩
            case measure => simp [intOf]; omega
          · have hpp : ((p : Int) == (who : Int)) = false := by rw [beq_eq_false_iff_ne]; omega
            have hoth := HB.out.2.1.other hp4 hpw HL.out.2.1 HL.out.1
            have H4 := Lib.hid hoth
            clear hoth
            go_wp2
            go_roundw
            case rel => exact ⟨k + 1, _, _, by omega, by omega, by go_num, H4.out, HL.out.2.2⟩
            case measure => simp [intOf]; omega
        · have s1 := hbw.size
          obtain ⟨sb, hsb⟩ : ∃ sb, sb = wr.heap.size + 1 + 1 := ⟨_, rfl⟩
          rw [← hsb] at hrec ⊢
          have hb0 := (hb2.block wr.heap.size (by simp)).trans (heap_alloc_new wr (.cells #[.int .i64 0, .int .i64 0, .int .i64 0, .int .i64 0, .int .i64 0, .slice none 0 0] 39))
          have hbx : ((((((w2.setCell ⟨wr.heap.size, 0, none⟩ (.int .i64 k)).setCell ⟨wr.heap.size, 1, none⟩ (.int .i64 1)).setCell ⟨wr.heap.size, 2, none⟩ (.int .i64 p)).setCell ⟨wr.heap.size, 3, none⟩ (.int .i64 s)).setCell ⟨wr.heap.size, 4, none⟩ (.int .i64 0)).setCell ⟨wr.heap.size, 5, none⟩ (.slice (some ⟨sb, 0, none⟩) 1 1)).heap[wr.heap.size]? = some (.cells #[.int .i64 k, .int .i64 1, .int .i64 p, .int .i64 s, .int .i64 0, .slice (some ⟨sb, 0, none⟩) 1 1] 39) := (setCell_same (setCell_same (setCell_same (setCell_same (setCell_same (setCell_same hb0))))))
          have h6 : Below wr.heap.size wr ((((((w2.setCell ⟨wr.heap.size, 0, none⟩ (.int .i64 k)).setCell ⟨wr.heap.size, 1, none⟩ (.int .i64 1)).setCell ⟨wr.heap.size, 2, none⟩ (.int .i64 p)).setCell ⟨wr.heap.size, 3, none⟩ (.int .i64 s)).setCell ⟨wr.heap.size, 4, none⟩ (.int .i64 0)).setCell ⟨wr.heap.size, 5, none⟩ (.slice (some ⟨sb, 0, none⟩) 1 1)) := ((((((hbw.setCell (Nat.le_refl _) _).setCell (Nat.le_refl _) _).setCell (Nat.le_refl _) _).setCell (Nat.le_refl _) _).setCell (Nat.le_refl _) _).setCell (Nat.le_refl _) _)
          have hu6 : Upd (fun q => q = wr.heap.size) w2 ((((((w2.setCell ⟨wr.heap.size, 0, none⟩ (.int .i64 k)).setCell ⟨wr.heap.size, 1, none⟩ (.int .i64 1)).setCell ⟨wr.heap.size, 2, none⟩ (.int .i64 p)).setCell ⟨wr.heap.size, 3, none⟩ (.int .i64 s)).setCell ⟨wr.heap.size, 4, none⟩ (.int .i64 0)).setCell ⟨wr.heap.size, 5, none⟩ (.slice (some ⟨sb, 0, none⟩) 1 1)) := (upd_setCell (upd_setCell (upd_setCell (upd_setCell (upd_setCell (upd_setCell (Upd.refl (fun q => q = wr.heap.size) w2) rfl _) rfl _) rfl _) rfl _) rfl _) rfl _)
          have htw := HS.out.below h6
          have hbW := hbel.trans (h6.mono hsz)
          have hrW := hrec.keptT hu6 (fun q cur fz hq e => by rw [e, hb0] at hq; simp at hq)
          generalize hWe : ((((((w2.setCell ⟨wr.heap.size, 0, none⟩ (.int .i64 k)).setCell ⟨wr.heap.size, 1, none⟩ (.int .i64 1)).setCell ⟨wr.heap.size, 2, none⟩ (.int .i64 p)).setCell ⟨wr.heap.size, 3, none⟩ (.int .i64 s)).setCell ⟨wr.heap.size, 4, none⟩ (.int .i64 0)).setCell ⟨wr.heap.size, 5, none⟩ (.slice (some ⟨sb, 0, none⟩) 1 1)) = W at *
          obtain ⟨tb, htb⟩ : ∃ tb, tb = wr.heap.size := ⟨_, rfl⟩
          rw [← htb] at hbx ⊢
          have htbN : wr.heap.size ≤ tb := by omega
          clear hWe hsb hb0 h6 hu6 htb
          clear hc2 hf2 hb2 hbw
          have HB := Lib.hid (And.intro hbx (And.intro htw (And.intro hbW hrW)))
          have t0 : W.cell? ⟨tb, 0, none⟩ = some (.int .i64 k) := by rw [cell_of_row W _ _ _ _ _ hbx]; rfl
          have t1 : W.cell? ⟨tb, 1, none⟩ = some (.int .i64 1) := by rw [cell_of_row W _ _ _ _ _ hbx]; rfl
          have t2 : W.cell? ⟨tb, 2, none⟩ = some (.int .i64 p) := by rw [cell_of_row W _ _ _ _ _ hbx]; rfl
          have t3 : W.cell? ⟨tb, 3, none⟩ = some (.int .i64 s) := by rw [cell_of_row W _ _ _ _ _ hbx]; rfl
          have t4 : W.cell? ⟨tb, 4, none⟩ = some (.int .i64 0) := by rw [cell_of_row W _ _ _ _ _ hbx]; rfl
          have t5 : W.cell? ⟨tb, 5, none⟩ = some (.slice (some ⟨sb, 0, none⟩) 1 1) := by rw [cell_of_row W _ _ _ _ _ hbx]; rfl
          clear hbx htw hbW hrW
          go_wp2_with fail
          refine (LedAdd_any HB.out.2.1.atl (bat p s k) _ HB.out.2.2.2).mono ?_
          rintro _ w3 ⟨rfl, hl3, hu3⟩
          have hNW : w1.heap.size + 4 ≤ tb := by
            obtain ⟨bp, _, e, _, hcc, _⟩ := HS.out.atk.ptr
            obtain rfl : w1.heap.size + 3 = bp := by simpa using e
            have := World.block_lt_of_cell? wr _ hcc
            simp only at this
            omega
          have u := fun o v (h : W.cell? ⟨tb, o, none⟩ = some v) => upd_some hu3 h (by omega)
          have s0 := u 0 _ t0
          have s1' := u 1 _ t1
          have s2' := u 2 _ t2
          have s3' := u 3 _ t3
          have s4' := u 4 _ t4
          have s5' := u 5 _ t5
          have hb3 : Below w.heap.size w w3 := below_upd HB.out.2.2.1 hu3 hN (by have := HB.out.2.2.1.size; omega)
          have HL := Lib.hid (And.intro hl3 (And.intro hu3 hb3))
          clear u hl3 hu3 hb3
          by_cases hpw : p = who
          · subst hpw
            have hrec3 := HB.out.2.2.2.keptT HL.out.2.1 (fun q cur fz hq e => by have := HB.out.2.1.atl.ptr; obtain ⟨_, m, _, _, _, hm, _⟩ := this; exact hm.not_cells q cur _ fz hq e)
            obtain ⟨_, mm, _, _, _, hmm, _⟩ := HB.out.2.1.atl.ptr
            have hk3 := HB.out.2.1.atk.kept HL.out.2.1 (by omega) hmm.not_cells
            have HR := Lib.hid (And.intro hrec3 hk3)
            clear hrec3 hk3 hmm
            have hpp : ((p : Int) == (p : Int)) = true := by simp
            go_wp2_with fail
            refine (LedAdd_any HR.out.2 (bat p s k) _ HR.out.1).mono ?_
            rintro _ w4 ⟨rfl, hk4, hu4⟩
            have hboth := HB.out.2.1.both hw4 HL.out.2.1 HL.out.1 hu4 hk4
            have hb4 : Below w.heap.size w w4 := below_upd HL.out.2.2 hu4 (by omega) (by have := HL.out.2.2.size; omega)
            have heq := hboth.2
            generalize (addS Lk (bat p s k)).2 = n2 at *
            have H4 := Lib.hid (And.intro hboth.1 (And.intro hb4 heq))
            clear hboth hb4 hk4 hu4
            subst heq
            have hnn : ((addS Ll (bat p s k)).2 != (addS Ll (bat p s k)).2) = false := by simp
            go_wp2
            go_roundw
            case rel => exact ⟨k + 1, _, _, by omega, by omega, by go_num, H4.out.1, H4.out.2.1⟩
            case measure => simp [intOf]; omega
          · have hpp : ((p : Int) == (who : Int)) = false := by rw [beq_eq_false_iff_ne]; omega
            have hoth := HB.out.2.1.other hp4 hpw HL.out.2.1 HL.out.1
            have H4 := Lib.hid hoth
            clear hoth
            go_wp2
            go_roundw
            case rel => exact ⟨k + 1, _, _, by omega, by omega, by go_num, H4.out, HL.out.2.2⟩
            case measure => simp [intOf]; omega
      · have i1 : (k : Int) < (l.length : Int) := by omega
        have i2 : ¬ (k : Int) < 120 := by omega
        go_wp2
        go_loopw [10] (fun i wr2 => ∃ q : Nat, q ≤ 22 ∧ i = .int .i64 q ∧ Two wr2 w1.heap.size Ll Lk who ∧ Below w.heap.size w wr2) (fun i _ => 22 - (intOf i).toNat)
        case atStart => exact ⟨0, by omega, rfl, HS.out, hbel⟩
        case round =>
          obtain ⟨q, hq, rfl, ht, hbq⟩ := hrel
          rename_i wr2 _
          have HT := Lib.hid ht
          clear ht
          by_cases hq2 : q < 22
          · have j1 : (q : Int) < 22 := by omega
            go_wp2_with fail
            refine (check_agg HT.out.atl who q).mono ?_
            rintro _ w5 ⟨rfl, hb5⟩
            have HT2 := Lib.hid ((HT.out.below hb5).below (below_alloc w5 (.cells #[.int .i64 (checkS (rowOf Ll who) who q).1.seq, .int .i64 (checkS (rowOf Ll who) who q).1.base, .int .i64 (checkS (rowOf Ll who) who q).1.fin] 32)))
            go_wp2_with fail
            refine (check_agg HT2.out.atk who q).mono ?_
            rintro _ w6 ⟨rfl, hb6⟩
            rw [← HT.out.row]
            generalize checkS (rowOf Ll who) who q = cc at *
            obtain ⟨⟨c0, c1, c2⟩, c3⟩ := cc
            dsimp only at *
            have k0 : w6.cell? ⟨w5.heap.size, 0, none⟩ = some (.int .i64 c0) := below_some hb6 (by simp [go_sem]) (by simp)
            have k1 : w6.cell? ⟨w5.heap.size, 1, none⟩ = some (.int .i64 c1) := below_some hb6 (by simp [go_sem]) (by simp)
            have k2 : w6.cell? ⟨w5.heap.size, 2, none⟩ = some (.int .i64 c2) := below_some hb6 (by simp [go_sem]) (by simp)
            have hz6 := hb6.size
            simp only [World.size_alloc] at hz6
            have hlt56 : w5.heap.size < w6.heap.size := by omega
            have hnn : (c3 != c3) = false := by simp
            have hch := below_trans (below_trans hb5 (below_alloc w5 (.cells #[.int .i64 c0, .int .i64 c1, .int .i64 c2] 32))) (below_trans hb6 (below_alloc w6 (.cells #[.int .i64 c0, .int .i64 c1, .int .i64 c2] 32)))
            have HF := Lib.hid (And.intro (HT.out.below hch) (hbq.trans (hch.mono hbq.size)))
            clear hch
            go_wp2
            go_roundw
            case rel => exact ⟨q + 1, by omega, by go_num, HF.out.1, HF.out.2⟩
            case measure => simp [intOf]; omega
          · have j1 : ¬ (q : Int) < 22 := by omega
            go_wp2
            go_ret
            exact ⟨rfl, hbq⟩
    · have i1 : ¬ (k : Int) < (l.length : Int) := by omega
      go_wp2
      go_loopw [10] (fun i wr2 => ∃ q : Nat, q ≤ 22 ∧ i = .int .i64 q ∧ Two wr2 w1.heap.size Ll Lk who ∧ Below w.heap.size w wr2) (fun i _ => 22 - (intOf i).toNat)
      case atStart => exact ⟨0, by omega, rfl, HS.out, hbel⟩
      case round =>
        obtain ⟨q, hq, rfl, ht, hbq⟩ := hrel
        rename_i wr2 _
        have HT := Lib.hid ht
        clear ht
        by_cases hq2 : q < 22
        · have j1 : (q : Int) < 22 := by omega
          go_wp2_with fail
          refine (check_agg HT.out.atl who q).mono ?_
          rintro _ w5 ⟨rfl, hb5⟩
          have HT2 := Lib.hid ((HT.out.below hb5).below (below_alloc w5 (.cells #[.int .i64 (checkS (rowOf Ll who) who q).1.seq, .int .i64 (checkS (rowOf Ll who) who q).1.base, .int .i64 (checkS (rowOf Ll who) who q).1.fin] 32)))
          go_wp2_with fail
          refine (check_agg HT2.out.atk who q).mono ?_
          rintro _ w6 ⟨rfl, hb6⟩
          rw [← HT.out.row]
          generalize checkS (rowOf Ll who) who q = cc at *
          obtain ⟨⟨c0, c1, c2⟩, c3⟩ := cc
          dsimp only at *
          have k0 : w6.cell? ⟨w5.heap.size, 0, none⟩ = some (.int .i64 c0) := below_some hb6 (by simp [go_sem]) (by simp)
          have k1 : w6.cell? ⟨w5.heap.size, 1, none⟩ = some (.int .i64 c1) := below_some hb6 (by simp [go_sem]) (by simp)
          have k2 : w6.cell? ⟨w5.heap.size, 2, none⟩ = some (.int .i64 c2) := below_some hb6 (by simp [go_sem]) (by simp)
          have hz6 := hb6.size
          simp only [World.size_alloc] at hz6
          have hlt56 : w5.heap.size < w6.heap.size := by omega
          have hnn : (c3 != c3) = false := by simp
          have hch := below_trans (below_trans hb5 (below_alloc w5 (.cells #[.int .i64 c0, .int .i64 c1, .int .i64 c2] 32))) (below_trans hb6 (below_alloc w6 (.cells #[.int .i64 c0, .int .i64 c1, .int .i64 c2] 32)))
          have HF := Lib.hid (And.intro (HT.out.below hch) (hbq.trans (hch.mono hbq.size)))
          clear hch
          go_wp2
          go_roundw
          case rel => exact ⟨q + 1, by omega, by go_num, HF.out.1, HF.out.2⟩
          case measure => simp [intOf]; omega
        · have j1 : ¬ (q : Int) < 22 := by omega
          go_wp2
          go_ret
          exact ⟨rfl, hbq⟩
end Go.Proofs.Ytcgjhifcocmdaaa
