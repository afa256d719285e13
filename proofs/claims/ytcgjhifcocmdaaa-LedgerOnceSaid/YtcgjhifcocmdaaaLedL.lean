/- The walk of LedgerOnce. -/
import Derived.Test.YtcgjhifcocmdaaaLedL0
namespace Go.Proofs.Ytcgjhifcocmdaaa
open Go.RowKit

theorem und_Ints : Try.prog.underlying 27 = some (.slice 3) := by kernel_rfl
theorem info_int : (Try.prog.info? 3).map (fun i => (i.zero, i.size, i.bytes)) = some (some (.int .i64 0), 1, 8) := by kernel_rfl

/-- What Check answers in LedgerOnce, and that nothing changes. -/
theorem once_check {N : Nat} {w : World} {L : List (Int × List Slot)} {bs : Nat → List Int} {e : Int} (h : OSt N w L bs e) (hi : OnceInv L bs e) {p s : Nat} (hp : p < 4) (hs : s < 40) :
    Calls Try.prog 9 #[.pointer (some ⟨N + 1, 0, none⟩), .int .i64 p, .int .i64 s] w fun en w' =>
      en = .returned (.tuple #[(if s = (bs p).length then (Slot.zero, (0 : Int)) else if (bs p).length < s then (Slot.zero, 20) else if s + 5 < (bs p).length then (Slot.zero, 21)
      else (⟨(s : Int), (bs p).getD s 0, (bs p).getD s 0 + 1⟩, 13)).1.v, .int .i64 (if s = (bs p).length then (Slot.zero, (0 : Int)) else if (bs p).length < s then (Slot.zero, 20) else if s + 5 < (bs p).length then (Slot.zero, 21)
      else (⟨(s : Int), (bs p).getD s 0, (bs p).getD s 0 + 1⟩, 13)).2]) ∧ Below w.heap.size w w' := by
  have := LedCheck_any h.led p s
  rw [hi.rows p hp, checkS_mkRow _ _ _ (by omega) (by omega)] at this
  exact this

set_option maxRecDepth 100000 in
set_option maxHeartbeats 2000000 in
theorem Once_any {w : World} {v : Value} {l : List (Int × Int)} (h : PairsAt w v l) :
    Calls Try.prog 3 #[v] w fun e w' => e = .returned (.bool true) ∧ Below w.heap.size w w' := by
  obtain ⟨a, cap, rfl, hl, hc⟩ := h
  have HC := Lib.hid hc
  clear hc
  have hl' : (l.length : Int) ≤ 9223372036854775807 := by omega
  clear hl
  obtain ⟨i0, hi, hz0, hz1, hz2⟩ := info_parts info_int
  go_enter Try.func3, Try.ntmps3
  go_wp2_with (first
    | (go_at_call 7; refine (awake_any _).mono ?_; rintro e w1 ⟨rfl, hb1⟩)
    | (go_at_call 8; refine (LedNew_any _).mono ?_; rintro e w2 ⟨rfl, rfl⟩))
  have hN := hb1.size
  go_loopw [6, 7] (fun en i wr => ∃ (k : Nat) (e : Int) (L : List (Int × List Slot)) (bs : Nat → List Int), k ≤ l.length ∧ k ≤ 120 ∧ i = .int .i64 k ∧ en = .int .i64 e ∧ 0 ≤ e ∧ e ≤ k ∧
    OSt w1.heap.size wr L bs e ∧ OnceInv L bs e ∧ Below w.heap.size w wr) (fun _ i _ => l.length - (intOf i).toNat)
  case atStart =>
    refine ⟨0, 0, [], fun _ => [], Nat.zero_le _, by omega, rfl, rfl, by omega, by omega, ?_, once_start, ?_⟩
    · exact OSt.start w1
    · exact hb1.trans ((((below_alloc2 w1 _ _).alloc (by simp; omega) _).alloc (by simp; omega) _).mono hN)
  case round =>
    obtain ⟨k, e, L, bs, hk, hk2, rfl, rfl, he0, he1, hst, hinv, hbel⟩ := hrel
    have HS := Lib.hid (And.intro hst hinv)
    clear hst hinv
    have hsz := hbel.size
    by_cases hlt : k < l.length
    · by_cases hlt2 : k < 120
      · obtain ⟨b, off, rfl, hb, c0, c1⟩ := HC.out k hlt
        have c0 := below_some hbel c0 hb
        have c1 := below_some hbel c1 hb
        generalize l[k].1 = x at *
        generalize l[k].2 = y at *
        obtain ⟨p, hp, hp4⟩ := u64mod x 4 (by omega) (by omega)
        obtain ⟨s, hs, hs40⟩ := u64mod y 40 (by omega) (by omega)
        have hp : wrap64 ((IntKind.u64.wrap x).tmod 4) = p := hp
        have hs : wrap64 ((IntKind.u64.wrap y).tmod 40) = s := hs
        have i1 : (k : Int) < (l.length : Int) := by omega
        have i2 : (k : Int) < 120 := by omega
        have hchk := once_check HS.out.1 HS.out.2 hp4 hs40
        have hd1 : IntKind.u64.wrap 4 = 4 := by decide
        have hnd := HS.out.1.led.nodup
        rcases Nat.lt_trichotomy s (bs p).length with hcs | hcs | hcs
        · by_cases h5 : s + 5 < (bs p).length
          · skip
            rw [if_neg (by omega), if_neg (by omega), if_pos h5] at hchk
            have hchk : Calls Try.prog 9 #[.pointer (some ⟨w1.heap.size + 1, 0, none⟩), .int .i64 p, .int .i64 s] wr fun en w' => en = .returned (.tuple #[.agg #[.int .i64 0, .int .i64 0, .int .i64 0], .int .i64 21]) ∧ Below wr.heap.size wr w' := hchk
            have hadd : addS L (bat p s e) = (L, 21) := by
              rw [once_other HS.out.2 hp4 hs40 he0 (by omega) (by omega), HS.out.2.rows p hp4, checkS_mkRow _ _ _ (by omega) (by omega), if_neg (by omega), if_neg (by omega), if_pos h5]
            have HCH := Lib.hid hchk
            have HEQ := Lib.hid hadd
            clear hchk hadd
            go_wp2_with fail
            refine HCH.out.mono ?_
            rintro _ w2 ⟨rfl, hb2⟩
            go_wp2_with fail
            refine (batch_any _ _ _ _).mono ?_
            rintro _ w3 ⟨rfl, hrec, hb3⟩
            simp only [World.size_alloc] at hrec
            have hb23 := below_trans (below_trans hb2 (below_alloc w2 (.cells #[.int .i64 0, .int .i64 0, .int .i64 0] 32))) hb3
            have hst3 := HS.out.1.below hb23
            go_wp2_with fail
            refine (LedAdd_any hst3.led (bat p s e) _ hrec).mono ?_
            rintro _ w4 ⟨rfl, hled4, hu4⟩
            rw [HEQ.out] at hled4 ⊢
            have hst4 := hst3.step hu4 hled4
            have s2 := hb2.size
            have s3 := hb3.size
            have s4 := hu4.size
            simp only [World.size_alloc] at s3
            have hbig := HS.out.1.size
            have hbel4 : Below w.heap.size w w4 := below_upd (hbel.trans (hb23.mono hsz)) hu4 hN (by omega)
            have HF := Lib.hid (And.intro hst4 hbel4)
            obtain ⟨-, ⟨cn, n1, n2, n3⟩, ⟨cb, sv, g1, g2, g3, g4⟩, hs4⟩ := hst4
            have f4 : ∀ o v, w3.cell? ⟨w2.heap.size, o, none⟩ = some v → w4.cell? ⟨w2.heap.size, o, none⟩ = some v := fun o v h => upd_some hu4 h (by omega)
            have x0 := f4 0 (.int .i64 0) (below_some hb3 (by simp [go_sem]) (by simp))
            have x1 := f4 1 (.int .i64 0) (below_some hb3 (by simp [go_sem]) (by simp))
            have x2 := f4 2 (.int .i64 0) (below_some hb3 (by simp [go_sem]) (by simp))
            have cn0 : w4.cell? ⟨w1.heap.size + 2, p, none⟩ = some (.int .i64 (bs p).length) := by rw [cell_of_row w4 _ p cn _ _ n1, n3 p hp4]
            have hp4' : (p : Int) < 4 := by omega
            have hs63 : (s : Int) < 40 := by omega
            have t1 : ((s : Int) == ((bs p).length : Int)) = false := by rw [beq_eq_false_iff_ne]; omega
            have t2 : ¬ ((bs p).length : Int) < (s : Int) := by omega
            have t3 : (s : Int) + 5 < ((bs p).length : Int) := by omega
            clear f4 n1 n2 n3 g1 g2 g3 g4 hled4 hcs h5
            go_wp2
            go_roundw
            case rel => exact ⟨k + 1, e, L, bs, by omega, by omega, by go_num, rfl, by omega, by omega, HF.out.1, HS.out.2, HF.out.2⟩
            case measure => simp [intOf]; omega
          · skip
            rw [if_neg (by omega), if_neg (by omega), if_neg h5] at hchk
            have hbd := HS.out.2.ends p hp4 ((bs p).getD s 0) (by rw [List.getD_eq_getElem?_getD, List.getElem?_eq_getElem hcs]; exact List.getElem_mem hcs)
            have hbv : (bs p).getD s 0 = (bs p)[s] := by rw [List.getD_eq_getElem?_getD, List.getElem?_eq_getElem hcs]; rfl
            generalize (bs p).getD s 0 = bv at *
            have HBV := Lib.hid hbv
            clear hbv
            have hchk : Calls Try.prog 9 #[.pointer (some ⟨w1.heap.size + 1, 0, none⟩), .int .i64 p, .int .i64 s] wr fun en w' => en = .returned (.tuple #[.agg #[.int .i64 s, .int .i64 bv, .int .i64 (bv + 1)], .int .i64 13]) ∧ Below wr.heap.size wr w' := hchk
            have hadd : addS L (bat p s e) = (L, 13) := by
              rw [once_other HS.out.2 hp4 hs40 he0 (by omega) (by omega), HS.out.2.rows p hp4, checkS_mkRow _ _ _ (by omega) (by omega), if_neg (by omega), if_neg (by omega), if_neg h5]
            have HCH := Lib.hid hchk
            have HEQ := Lib.hid hadd
            clear hchk hadd
            go_wp2_with fail
            refine HCH.out.mono ?_
            rintro _ w2 ⟨rfl, hb2⟩
            go_wp2_with fail
            refine (batch_any _ _ _ _).mono ?_
            rintro _ w3 ⟨rfl, hrec, hb3⟩
            simp only [World.size_alloc] at hrec
            have hb23 := below_trans (below_trans hb2 (below_alloc w2 (.cells #[.int .i64 s, .int .i64 bv, .int .i64 (bv + 1)] 32))) hb3
            have hst3 := HS.out.1.below hb23
            go_wp2_with fail
            refine (LedAdd_any hst3.led (bat p s e) _ hrec).mono ?_
            rintro _ w4 ⟨rfl, hled4, hu4⟩
            rw [HEQ.out] at hled4 ⊢
            have hst4 := hst3.step hu4 hled4
            have s2 := hb2.size
            have s3 := hb3.size
            have s4 := hu4.size
            simp only [World.size_alloc] at s3
            have hbig := HS.out.1.size
            have hbel4 : Below w.heap.size w w4 := below_upd (hbel.trans (hb23.mono hsz)) hu4 hN (by omega)
            have HF := Lib.hid (And.intro hst4 hbel4)
            obtain ⟨-, ⟨cn, n1, n2, n3⟩, ⟨cb, sv, g1, g2, g3, g4⟩, hs4⟩ := hst4
            have f4 : ∀ o v, w3.cell? ⟨w2.heap.size, o, none⟩ = some v → w4.cell? ⟨w2.heap.size, o, none⟩ = some v := fun o v h => upd_some hu4 h (by omega)
            have x0 := f4 0 (.int .i64 s) (below_some hb3 (by simp [go_sem]) (by simp))
            have x1 := f4 1 (.int .i64 bv) (below_some hb3 (by simp [go_sem]) (by simp))
            have x2 := f4 2 (.int .i64 (bv + 1)) (below_some hb3 (by simp [go_sem]) (by simp))
            have cn0 : w4.cell? ⟨w1.heap.size + 2, p, none⟩ = some (.int .i64 (bs p).length) := by rw [cell_of_row w4 _ p cn _ _ n1, n3 p hp4]
            have hp4' : (p : Int) < 4 := by omega
            have hs63 : (s : Int) < 40 := by omega
            have t1 : ((s : Int) == ((bs p).length : Int)) = false := by rw [beq_eq_false_iff_ne]; omega
            have t2 : ¬ ((bs p).length : Int) < (s : Int) := by omega
            have t3 : ¬ (s : Int) + 5 < ((bs p).length : Int) := by omega
            have t4 : (s : Int) < ((bs p).length : Int) := by omega
            have t5 : (0 : Int) ≤ (s : Int) := by omega
            have t6 : IntKind.i64.wrap (bv + 1) = bv + 1 := IntWalk.i64_in _ (by omega)
            have t7 : (0 : Int) ≤ (p : Int) := by omega
            obtain ⟨rb, roff, rcap2, er, _, _, hrb, hrc⟩ := (Sl.of_owns (g3 p hp4).2).at (by omega)
            have cb0 : w4.cell? ⟨w1.heap.size + 3, p, none⟩ = some (sv p) := by rw [cell_of_row w4 _ p cb _ _ g1]; exact (g3 p hp4).1
            rw [er] at cb0
            have cr := hrc s (.int .i64 bv) (by rw [HBV.out]; simp [hcs])
            clear f4 n1 n2 n3 g1 g2 g3 g4 hled4 hrc er HBV hcs h5
            go_wp2
            go_quiet (fail)
            go_wp2
            go_roundw
            case rel => exact ⟨k + 1, e, L, bs, by omega, by omega, by go_num, rfl, by omega, by omega, HF.out.1.below (below_drewN (Below.refl _ _) _), HS.out.2, below_drewN HF.out.2 _⟩
            case measure => simp [intOf]; omega
        · -- the next one
          rw [if_pos hcs] at hchk
          have hchk : Calls Try.prog 9 #[.pointer (some ⟨w1.heap.size + 1, 0, none⟩), .int .i64 p, .int .i64 s] wr fun en w' => en = .returned (.tuple #[.agg #[.int .i64 0, .int .i64 0, .int .i64 0], .int .i64 0]) ∧ Below wr.heap.size wr w' := hchk
          obtain ⟨L', hadd, hinv'⟩ := once_next HS.out.2 hnd hp4 (by omega) he0 (by omega)
          rw [← hcs] at hadd
          have HCH := Lib.hid hchk
          have HEQ := Lib.hid (And.intro hcs (And.intro hadd hinv'))
          clear hchk hcs hadd hinv'
          go_wp2_with fail
          refine HCH.out.mono ?_
          rintro _ w2 ⟨rfl, hb2⟩
          go_wp2_with fail
          refine (batch_any _ _ _ _).mono ?_
          rintro _ w3 ⟨rfl, hrec, hb3⟩
          simp only [World.size_alloc] at hrec
          have hb23 := below_trans (below_trans hb2 (below_alloc w2 (.cells #[.int .i64 0, .int .i64 0, .int .i64 0] 32))) hb3
          have hst3 := HS.out.1.below hb23
          go_wp2_with fail
          refine (LedAdd_any hst3.led (bat p s e) _ hrec).mono ?_
          rintro _ w4 ⟨rfl, hled4, hu4⟩
          rw [HEQ.out.2.1] at hled4 ⊢
          have hst4 := hst3.step hu4 hled4
          have hled4' := Lib.hid hled4
          obtain ⟨-, ⟨cn, n1, n2, n3⟩, ⟨cb, sv, g1, g2, g3, g4⟩, hs4⟩ := hst4
          have s2 := hb2.size
          have s3 := hb3.size
          have s4 := hu4.size
          simp only [World.size_alloc] at s3
          have hbig := HS.out.1.size
          have f4 : ∀ o v, w3.cell? ⟨w2.heap.size, o, none⟩ = some v → w4.cell? ⟨w2.heap.size, o, none⟩ = some v := fun o v h => upd_some hu4 h (by omega)
          have x0 := f4 0 (.int .i64 0) (below_some hb3 (by simp [go_sem]) (by simp))
          have x1 := f4 1 (.int .i64 0) (below_some hb3 (by simp [go_sem]) (by simp))
          have x2 := f4 2 (.int .i64 0) (below_some hb3 (by simp [go_sem]) (by simp))
          have cn0 : w4.cell? ⟨w1.heap.size + 2, p, none⟩ = some (.int .i64 s) := by rw [cell_of_row w4 _ p cn _ _ n1, n3 p hp4, HEQ.out.1]
          have cb0 : w4.cell? ⟨w1.heap.size + 3, p, none⟩ = some (sv p) := by rw [cell_of_row w4 _ p cb _ _ g1]; exact (g3 p hp4).1
          have GN := Lib.hid (And.intro n1 (And.intro n2 n3))
          have GG := Lib.hid (And.intro g1 (And.intro g2 (And.intro g3 g4)))
          clear f4 n1 n2 n3 g1 g2 g3 g4 hled4
          have hp4' : (p : Int) < 4 := by omega
          have hs63 : (s : Int) < 40 := by omega
          have hs64 : ((bs p).length : Int) < 40 := by have := HEQ.out.1; omega
          go_wp2_with (at_builtin; refine wpList_append_lies _ rfl _ _ 27 rfl (w1.heap.size + 4) 3 i0 _ 1 8 und_Ints hi hz0 hz1 hz2 rfl (by decide) (sv p) (bs p).length ((bs p).map (Value.int .i64)) rfl ((GG.out.2.2.1 p hp4).2.alloc _) ⟨w4.heap.size, 0, none⟩ 1 1 [.int .i64 e] rfl rfl (World.news_of_block (cs := #[.int .i64 e]) (t := 3) (fr := (0, 0)) (heap_alloc_new w4 _)) (by simp [Value.oneCell']) (by decide) ?_ ?_ ?_ _ rfl ?_; (rw [← HEQ.out.1]; unfold maxLen; omega); (rw [← HEQ.out.1]; omega); (simp only [World.size_alloc]; omega); intro gg gcap w6 hown6 hgrow6 hat6 hlt6; obtain ⟨q3, q3f, q2, q2f⟩ := took_facts (bs := bs) hp4 GN.out.1 GN.out.2.2 GG.out.1 GG.out.2.2.1 hgrow6; have D := Lib.hid (And.intro hown6 (And.intro hgrow6 hat6)); clear hown6 hat6 hgrow6)
          obtain ⟨hown6, hgrow6, hat6⟩ := D.out
          simp only [World.size_alloc] at hat6
          have hst4 := hst3.step hu4 hled4'.out
          have htook := hst4.took hp4 GG.out.1 GG.out.2.1 GG.out.2.2.1 GG.out.2.2.2 hown6 hgrow6 hat6
          have hbel6 : Below w.heap.size w ((w6.setCell ⟨w1.heap.size + 3, p, none⟩ (.slice (some ⟨gg, 0, none⟩) ((bs p).length + 1) gcap)).setCell ⟨w1.heap.size + 2, p, none⟩ (.int .i64 ((bs p).length + 1))) := by
            have b4 : Below w.heap.size w w4 := below_upd (hbel.trans (hb23.mono hsz)) hu4 hN (by omega)
            have b6 : Below w.heap.size w w6 := (b4.alloc (by omega) _).grown hgrow6 (by simp only [World.size_alloc]; omega) (fun k e => by have := ((GG.out.2.2.1 p hp4).2.lt k e).1; omega)
            exact (b6.setCell (by show w.heap.size ≤ w1.heap.size + 3; omega) _).setCell (by show w.heap.size ≤ w1.heap.size + 2; omega) _
          have HF := Lib.hid (And.intro htook (And.intro HEQ.out.2.2 hbel6))
          clear htook hbel6 hst4
          go_roundw
          case rel => exact ⟨k + 1, e + 1, L', _, by omega, by omega, by go_num, rfl, by omega, by omega, HF.out.1, HF.out.2.1, HF.out.2.2⟩
          case measure => simp [intOf]; omega
        · skip
          rw [if_neg (by omega), if_pos hcs] at hchk
          have hchk : Calls Try.prog 9 #[.pointer (some ⟨w1.heap.size + 1, 0, none⟩), .int .i64 p, .int .i64 s] wr fun en w' => en = .returned (.tuple #[.agg #[.int .i64 0, .int .i64 0, .int .i64 0], .int .i64 20]) ∧ Below wr.heap.size wr w' := hchk
          have hadd : addS L (bat p s e) = (L, 20) := by
            rw [once_other HS.out.2 hp4 hs40 he0 (by omega) (by omega), HS.out.2.rows p hp4, checkS_mkRow _ _ _ (by omega) (by omega), if_neg (by omega), if_pos hcs]
          have HCH := Lib.hid hchk
          have HEQ := Lib.hid hadd
          clear hchk hadd
          go_wp2_with fail
          refine HCH.out.mono ?_
          rintro _ w2 ⟨rfl, hb2⟩
          go_wp2_with fail
          refine (batch_any _ _ _ _).mono ?_
          rintro _ w3 ⟨rfl, hrec, hb3⟩
          simp only [World.size_alloc] at hrec
          have hb23 := below_trans (below_trans hb2 (below_alloc w2 (.cells #[.int .i64 0, .int .i64 0, .int .i64 0] 32))) hb3
          have hst3 := HS.out.1.below hb23
          go_wp2_with fail
          refine (LedAdd_any hst3.led (bat p s e) _ hrec).mono ?_
          rintro _ w4 ⟨rfl, hled4, hu4⟩
          rw [HEQ.out] at hled4 ⊢
          have hst4 := hst3.step hu4 hled4
          have s2 := hb2.size
          have s3 := hb3.size
          have s4 := hu4.size
          simp only [World.size_alloc] at s3
          have hbig := HS.out.1.size
          have hbel4 : Below w.heap.size w w4 := below_upd (hbel.trans (hb23.mono hsz)) hu4 hN (by omega)
          have HF := Lib.hid (And.intro hst4 hbel4)
          obtain ⟨-, ⟨cn, n1, n2, n3⟩, ⟨cb, sv, g1, g2, g3, g4⟩, hs4⟩ := hst4
          have f4 : ∀ o v, w3.cell? ⟨w2.heap.size, o, none⟩ = some v → w4.cell? ⟨w2.heap.size, o, none⟩ = some v := fun o v h => upd_some hu4 h (by omega)
          have x0 := f4 0 (.int .i64 0) (below_some hb3 (by simp [go_sem]) (by simp))
          have x1 := f4 1 (.int .i64 0) (below_some hb3 (by simp [go_sem]) (by simp))
          have x2 := f4 2 (.int .i64 0) (below_some hb3 (by simp [go_sem]) (by simp))
          have cn0 : w4.cell? ⟨w1.heap.size + 2, p, none⟩ = some (.int .i64 (bs p).length) := by rw [cell_of_row w4 _ p cn _ _ n1, n3 p hp4]
          have hp4' : (p : Int) < 4 := by omega
          have hs63 : (s : Int) < 40 := by omega
          have t1 : ((s : Int) == ((bs p).length : Int)) = false := by rw [beq_eq_false_iff_ne]; omega
          have t2 : ((bs p).length : Int) < (s : Int) := by omega
          clear f4 n1 n2 n3 g1 g2 g3 g4 hled4 hcs
          go_wp2
          go_roundw
          case rel => exact ⟨k + 1, e, L, bs, by omega, by omega, by go_num, rfl, by omega, by omega, HF.out.1, HS.out.2, HF.out.2⟩
          case measure => simp [intOf]; omega
      · have i2 : ¬ (k : Int) < 120 := by omega
        have i1 : (k : Int) < (l.length : Int) := by omega
        go_wp2
        go_ret
        exact ⟨rfl, hbel⟩
    · have i1 : ¬ (k : Int) < (l.length : Int) := by omega
      go_wp2
      go_ret
      exact ⟨rfl, hbel⟩
end Go.Proofs.Ytcgjhifcocmdaaa
