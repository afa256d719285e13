/- The walk of LedgerBack. -/
import Derived.Test.YtjkobbmdemooaaaGreatDoorLedDe
import Derived.Test.YtjkobbmdemooaaaGreatDoorLedE2
import Derived.Test.YtjkobbmdemooaaaGreatDoorLedB0
namespace Go.Proofs.YtjkobbmdemooaaaGreatDoor
open Go.RowKit

def encStr (T : List (Int × List Slot)) : List UInt8 := if isTableB T = true then encT T else []
def encErr (T : List (Int × List Slot)) : Int := if isTableB T = true then 0 else 1

theorem LedEncode_any {w : World} {v : Value} {T : List (Int × List Slot)} (h : SeensRd w v T) (hE : Env w) :
    Calls Tryz.prog 27 #[v] w fun e w' => e = .returned (.tuple #[.string (bs (encStr T)), .int .i64 (encErr T)]) ∧ Below w.heap.size w w' := by
  unfold encStr encErr
  cases hT : isTableB T
  · exact LedEncode_no h hT
  · exact LedEncode_yes h hT hE

theorem From_good {w : World} {v : Value} {T : List (Int × List Slot)} (h : SeensRd w v T) (hT : isTableB T = true) : Calls Tryz.prog 36 #[v] w fun e w' =>
    ∃ bp B, e = .returned (.tuple #[.pointer (some ⟨bp, 0, none⟩), .int .i64 0]) ∧ LedAt w' (.pointer (some ⟨bp, 0, none⟩)) B T ∧ Below w.heap.size w w' :=
  (LedFrom_any h).mono (by
    rintro e w' (⟨-, bp, B, h1, -, h2, h3⟩ | ⟨hf, -⟩)
    · exact ⟨bp, B, h1, h2, h3⟩
    · rw [hT] at hf; cases hf)

/-- The two ledgers, side by side. -/
structure Duo (w wr : World) (bp B bq C : Nat) (L : List (Int × List Slot)) : Prop where
  led : LedAt wr (.pointer (some ⟨bp, 0, none⟩)) B L
  two : LedAt wr (.pointer (some ⟨bq, 0, none⟩)) C (tableS L)
  below : Below w.heap.size w wr

theorem Duo.next {w wr w' : World} {bp B bq C : Nat} {L : List (Int × List Slot)} (h : Duo w wr bp B bq C L) (hb : Below wr.heap.size wr w') : Duo w w' bp B bq C L :=
  ⟨h.led.below hb, h.two.below hb, h.below.trans (hb.mono h.below.size)⟩

theorem dec_enc {T : List (Int × List Slot)} (h : isTableB T = true) : decT tt tt (encT T) = some T := (decT_iff (fun _ _ => rfl) (fun _ _ => rfl) _ _).2 ⟨h, rfl⟩

set_option maxRecDepth 100000 in
set_option maxHeartbeats 4000000 in
theorem Back_any {w : World} {v v2 : Value} {l qs : List (Int × Int)} (h1 : PairsAt w v l) (h2 : PairsAt w v2 qs) (s : List UInt8) (hs : s.length ≤ 1048576) (hE : Env w) :
    Calls Tryz.prog 6 #[v, v2, .string (bs s)] w fun e w' => e = .returned (.bool true) ∧ Below w.heap.size w w' := by
  obtain ⟨a, cap, rfl, hl, hc⟩ := h1
  obtain ⟨qa, qcap, rfl, hql, hqc⟩ := h2
  have HC := Lib.hid hc
  have HQ := Lib.hid hqc
  have HE := Lib.hid hE
  have hl' : (l.length : Int) ≤ 9223372036854775807 := by omega
  have hql' : (qs.length : Int) ≤ 9223372036854775807 := by omega
  clear hc hqc hl hql hE
  by_cases hq60 : qs.length ≤ 60
  case neg =>
    have hq61 : ¬ (qs.length : Int) ≤ 60 := by omega
    go_enter Tryz.func6, Tryz.ntmps6
    go_wp2_with (first | (go_at_call 25; refine (awake_any _).mono ?_; rintro e w1 ⟨rfl, hb1⟩))
    exact bodyPost_ret (v := .bool true) (by simp [results, Tryz.results6, go_sem]) rfl ⟨rfl, hb1⟩
  have hq61 : (qs.length : Int) ≤ 60 := by omega
  go_enter Tryz.func6, Tryz.ntmps6
  go_wp2_with fail
  refine (awake_any _).mono ?_
  rintro e w1 ⟨rfl, hb1⟩
  go_wp2_with fail
  refine (LedNew_any _).mono ?_
  rintro e w2 ⟨rfl, rfl⟩
  go_wp2
  have hN := hb1.size
  go_loopg [8] l.length (fun gk i wr => ∃ (k : Nat) (L : List (Int × List Slot)), k ≤ l.length ∧ k ≤ 120 ∧ gk = l.length - k ∧ i = .int .i64 k ∧ LedAt wr (.pointer (some ⟨w1.heap.size + 1, 0, none⟩)) w1.heap.size L ∧ Few L ∧ Below w.heap.size w wr)
  case atStart =>
    exact ⟨0, [], Nat.zero_le _, by omega, rfl, rfl, LedAt.fresh w1, (by intro x hx; simp at hx), hb1.trans ((below_alloc2 w1 _ _).mono hN)⟩
  case round =>
    obtain ⟨k, L, hk, hk2, rfl, rfl, hled, hfew, hbel⟩ := hrel
    have HS := Lib.hid (And.intro hled hfew)
    clear hled hfew
    have hsz := hbel.size
    by_cases hgo : k < l.length ∧ k < 120
    · obtain ⟨hlt, hlt2⟩ := hgo
      obtain ⟨b, off, rfl, hb, c0, c1⟩ := HC.out k hlt
      have c0 := below_some hbel c0 hb
      have c1 := below_some hbel c1 hb
      generalize l[k].1 = x at *
      generalize l[k].2 = y at *
      obtain ⟨p, hp, hp4⟩ := u64mod x 4 (by omega) (by omega)
      obtain ⟨s', hs', hs40⟩ := u64mod y 20 (by omega) (by omega)
      have hp : wrap64 ((IntKind.u64.wrap x).tmod 4) = p := hp
      have hs' : wrap64 ((IntKind.u64.wrap y).tmod 20) = s' := hs'
      have hp' : IntKind.i64.wrap ((IntKind.u64.wrap x).tmod 4) = p := (IntWalk.i64_left _).trans hp
      have hs'' : IntKind.i64.wrap ((IntKind.u64.wrap y).tmod 20) = s' := (IntWalk.i64_left _).trans hs'
      have i1 : (k : Int) < (l.length : Int) := by omega
      have i2 : (k : Int) < 120 := by omega
      have i3 : (0 : Int) ≤ (k : Int) := by omega
      have hbr : b < wr.heap.size := by omega
      have hbN : b ≠ w1.heap.size := by omega
      have hkeep : ∀ w', Below wr.heap.size wr w' → w'.cell? ⟨b, off + k * 2, none⟩ = some (.int .i64 x) ∧ w'.cell? ⟨b, off + k * 2 + 1, none⟩ = some (.int .i64 y) :=
        fun w' h => ⟨below_some h c0 hbr, below_some h c1 hbr⟩
      have KEP := Lib.hid hkeep
      clear hkeep
      go_wp2
      go_region_held3 (fun w' => w'.cell? ⟨b, off + k * 2, none⟩ = some (.int .i64 x) ∧ w'.cell? ⟨b, off + k * 2 + 1, none⟩ = some (.int .i64 y))
        (first | with_reducible exact ⟨c0, c1⟩ | with_reducible exact KEP.out _ (Below.refl _ _).drew | with_reducible exact KEP.out _ (below_alloc _ _) | with_reducible exact KEP.out _ (below_alloc _ _).drew | (have hg := kk3; with_reducible exact kk3) | (have hg := hbw; first | with_reducible exact KEP.out _ hbw | with_reducible exact KEP.out _ hbw.drew))
        (first
          | (go_at_call 34; refine (batch_any3 _ _ _ _ wr ?_).mono ?_; (first | with_reducible exact (Below.refl _ _).drew | with_reducible exact Below.refl _ _); rintro e w2 ⟨rfl, hrec, hb2, hbw⟩; have hs2 := hb2.size; simp only [World.size_alloc, World.size_drew] at hs2 hrec; obtain ⟨hc2, hf2⟩ := bcell hb2)
          | (go_at_call 33; refine (LedAdd_any (HS.out.1.below hbw) (bat p s' k) _ hrec).mono ?_; rintro e w3 ⟨rfl, hl3, hu3⟩; have kk3 : w3.cell? ⟨b, off + k * 2, none⟩ = some (.int .i64 x) ∧ w3.cell? ⟨b, off + k * 2 + 1, none⟩ = some (.int .i64 y) := ⟨upd_some hu3 (KEP.out _ hbw).1 (by omega), upd_some hu3 (KEP.out _ hbw).2 (by omega)⟩))
      have hb3 : Below w.heap.size w w3 := below_upd (hbel.trans (hbw.mono hsz)) hu3 hN (by have := hbw.size; omega)
      have HFIN := Lib.hid (And.intro hl3 (And.intro (HS.out.2.add hp4 s' k) hb3))
      clear hl3 hb3 hu3 hrec hb2 hbw hc2 hf2 kk3
      go_wp2
      go_roundg (l.length - (k + 1))
      case measure => omega
      case rel => exact ⟨k + 1, _, by omega, by omega, rfl, by go_num, HFIN.out.1, HFIN.out.2.1, HFIN.out.2.2⟩
    · have hlen := HS.out.2.len HS.out.1.nodup
      have hT := table_good HS.out.1.ok HS.out.1.nodup (by omega)
      obtain ⟨X, hX⟩ : ∃ X, encT (tableS L) = X := ⟨_, rfl⟩
      have hes : encStr (tableS L) = X := by unfold encStr; rw [if_pos hT, hX]
      have hee : encErr (tableS L) = 0 := by unfold encErr; rw [if_pos hT]
      have hdx := dec_enc hT
      rw [hX] at hdx
      have hXl : X.length ≤ 1048576 := by
        have := encT_flat hT
        rw [← hX, encT, List.length_cons, List.length_append, List.length_singleton]; omega
      have HES := Lib.hid (And.intro hes (And.intro hee (And.intro hdx hT)))
      clear hX hes hee hdx hT
      have hstop : (¬ (k : Int) < (l.length : Int)) ∨ ((k : Int) < (l.length : Int) ∧ ¬ (k : Int) < 120) := by omega
      clear hgo
      have HLEN := Lib.hid hlen
      clear hlen
      rcases hstop with hst | ⟨hst, hst2⟩
      all_goals
        go_wp2_with (first
          | (go_at_call 35; refine (LedTable_any HS.out.1 (by have := HLEN.out; omega)).mono ?_; rintro e w3 ⟨tv, rfl, hseen, hb3⟩)
          | (go_at_call 27; refine (LedEncode_any hseen.rd (HE.out.below (hbel.trans (hb3.mono hsz)))).mono ?_; rintro e w4 ⟨rfl, hb4⟩; rw [HES.out.1, HES.out.2.1])
          | (go_at_call 29; refine (LedDecode_any X hXl (HE.out.below (hbel.trans ((below_trans hb3 hb4).mono hsz)))).mono ?_; rintro e w5 ⟨uv, rfl, hu, hb5⟩; rw [HES.out.2.2.1] at hu ⊢; dsimp only [decErr, Option.getD] at hu ⊢)
          | (go_at_call 36; refine (From_good hu HES.out.2.2.2).mono ?_; rintro e w6 ⟨bq, C, rfl, hled2, hb6⟩)
          | (go_at_call 31; refine (R6Same_eq (hseen.rd.below (below_trans (below_trans hb4 hb5) hb6)) (hu.below hb6)).mono ?_; rintro e w7 ⟨rfl, hb7⟩))
        have hb37 : Below wr.heap.size wr w7 := below_trans (below_trans (below_trans (below_trans hb3 hb4) hb5) hb6) hb7
        have hduo : Duo w w7 (w1.heap.size + 1) w1.heap.size bq C L := ⟨HS.out.1.below hb37, hled2.below hb7, hbel.trans (hb37.mono hsz)⟩
        have HDUO := Lib.hid hduo
        clear hduo hb37 hb7 hb6 hb5 hb4 hb3 hled2 hu hseen HES HS
        generalize w1.heap.size + 1 = bp at *
        go_loopg [16, 17, 18, 19, 20] qs.length (fun gk i _ _ _ _ wx => ∃ q : Nat, q ≤ qs.length ∧ gk = qs.length - q ∧ i = .int .i64 q ∧ Duo w wx bp w1.heap.size bq C L)
        case atStart => exact ⟨0, Nat.zero_le _, rfl, rfl, HDUO.out⟩
        case round =>
          obtain ⟨q, hq, rfl, rfl, hside⟩ := hrel
          have HS2 := Lib.hid hside
          have hbe := hside.below
          clear hside
          by_cases hqt : q < qs.length
          · obtain ⟨qb, qo, rfl, hqb, p0, p1⟩ := HQ.out q hqt
            have p0 := below_some hbe p0 hqb
            have p1 := below_some hbe p1 hqb
            obtain ⟨x, hx⟩ : ∃ x, qs[q].1 = x := ⟨_, rfl⟩
            obtain ⟨y, hy⟩ : ∃ y, qs[q].2 = y := ⟨_, rfl⟩
            rw [hx] at p0
            rw [hy] at p1
            clear hx hy
            have k1 : (q : Int) < (qs.length : Int) := by omega
            have k2 : (0 : Int) ≤ (q : Int) := by omega
            have hzq := hbe.size
            have hqb' : qb < wr.heap.size := by omega
            have hkeep : ∀ w', Below wr.heap.size wr w' → w'.cell? ⟨qb, qo + q * 2, none⟩ = some (.int .i64 x) ∧ w'.cell? ⟨qb, qo + q * 2 + 1, none⟩ = some (.int .i64 y) :=
              fun w' h => ⟨below_some h p0 hqb', below_some h p1 hqb'⟩
            have hck : ∀ w', Below wr.heap.size wr w' → Calls Tryz.prog 37 #[.pointer (some ⟨bp, 0, none⟩), .int .i64 x, .int .i64 y] w' fun e w'' =>
                e = .returned (.tuple #[.agg #[.int .i64 (checkS (rowOf L x) x y).1.seq, .int .i64 (checkS (rowOf L x) x y).1.base, .int .i64 (checkS (rowOf L x) x y).1.fin], .int .i64 (checkS (rowOf L x) x y).2]) ∧ Below w'.heap.size w' w'' ∧ Below wr.heap.size wr w'' := by
              intro w' h
              exact (check_agg (HS2.out.led.below h) x y).mono fun e w'' ⟨a1, a2⟩ => ⟨a1, a2, h.trans (a2.mono h.size)⟩
            have hck2 : ∀ w', Duo w w' bp w1.heap.size bq C L → Calls Tryz.prog 37 #[.pointer (some ⟨bq, 0, none⟩), .int .i64 x, .int .i64 y] w' fun e w'' =>
                e = .returned (.tuple #[.agg #[.int .i64 (checkS (rowOf L x) x y).1.seq, .int .i64 (checkS (rowOf L x) x y).1.base, .int .i64 (checkS (rowOf L x) x y).1.fin], .int .i64 (checkS (rowOf L x) x y).2]) ∧ Below w'.heap.size w' w'' := by
              intro w' h
              have := check_agg h.two x y
              rw [rowOf_tableS] at this
              exact this
            generalize checkS (rowOf L x) x y = cc at *
            obtain ⟨⟨z0, z1, z2⟩, z3⟩ := cc
            dsimp only at hck hck2
            have KEP := Lib.hid hkeep
            have HCK := Lib.hid hck
            have HCK2 := Lib.hid hck2
            clear hkeep hck hck2
            go_wp2
            go_cut [17, 18] from 96 to 139 (fun s15 s16 wx => ∃ xb : Nat, s15 = .pointer (some ⟨xb, 0, none⟩) ∧ s16 = .int .i64 z3 ∧ SlotIn wx xb z0 z1 z2 ∧ Duo w wx bp w1.heap.size bq C L ∧ wx.cell? ⟨qb, qo + q * 2, none⟩ = some (.int .i64 x) ∧ wx.cell? ⟨qb, qo + q * 2 + 1, none⟩ = some (.int .i64 y))
            case first =>
              go_region_held3 (fun w' => w'.cell? ⟨qb, qo + q * 2, none⟩ = some (.int .i64 x) ∧ w'.cell? ⟨qb, qo + q * 2 + 1, none⟩ = some (.int .i64 y))
                (first | with_reducible exact ⟨p0, p1⟩ | with_reducible exact KEP.out _ (Below.refl _ _).drew | with_reducible exact KEP.out _ (below_alloc _ _) | with_reducible exact KEP.out _ (below_alloc _ _).drew | (have hg := hbw; first | with_reducible exact KEP.out _ hbw | with_reducible exact KEP.out _ (hbw.alloc hbw.size _) | with_reducible exact KEP.out _ ((((hbw.setCell (Nat.le_refl _) _).setCell (Nat.le_refl _) _).setCell (Nat.le_refl _) _)) | with_reducible exact KEP.out _ (((hbw.setCell (Nat.le_refl _) _).setCell (Nat.le_refl _) _)) | with_reducible exact KEP.out _ (hbw.setCell (Nat.le_refl _) _)))
                (first
                  | (go_at_call 37; refine (HCK.out _ ?_).mono ?_; (first | with_reducible exact (Below.refl _ _).drew | with_reducible exact ((Below.refl _ _).alloc (Nat.le_refl _) _).drew | with_reducible exact Below.refl _ _ | with_reducible exact (Below.refl _ _).alloc (Nat.le_refl _) _); rintro e w2 ⟨rfl, hb2, hbw⟩; have hs2 := hb2.size; simp only [World.size_alloc, World.size_drew] at hs2; obtain ⟨hc2, hf2⟩ := bcell hb2))
              · go_wp2_with fail
                go_meet
                have kk := KEP.out _ (hbw.alloc hbw.size (.cells #[.int .i64 z0, .int .i64 z1, .int .i64 z2] 69))
                exact ⟨_, rfl, rfl, SlotIn.of (heap_alloc_new w2 _), HS2.out.next (hbw.alloc hbw.size _), kk.1, kk.2⟩
              · have hb0 := (hb2.block wr.heap.size (by simp)).trans (heap_alloc_new wr (.cells #[.int .i64 0, .int .i64 0, .int .i64 0] 69))
                have hbz : Below wr.heap.size wr (((w2.setCell ⟨wr.heap.size, 0, none⟩ (.int .i64 z0)).setCell ⟨wr.heap.size, 1, none⟩ (.int .i64 z1)).setCell ⟨wr.heap.size, 2, none⟩ (.int .i64 z2)) := ((hbw.setCell (Nat.le_refl _) _).setCell (Nat.le_refl _) _).setCell (Nat.le_refl _) _
                have kk := KEP.out _ hbz
                go_wp2_with fail
                go_meet
                exact ⟨_, rfl, rfl, SlotIn.of (setCell_same (setCell_same (setCell_same hb0))), HS2.out.next hbz, kk.1, kk.2⟩
            case rest =>
              obtain ⟨xb, rfl, rfl, hxb, hside3, p0, p1⟩ := hcut
              have hqb' : qb < wc.heap.size := World.block_lt_of_cell? _ _ p0
              have hkeep : ∀ w', Below wc.heap.size wc w' → w'.cell? ⟨qb, qo + q * 2, none⟩ = some (.int .i64 x) ∧ w'.cell? ⟨qb, qo + q * 2 + 1, none⟩ = some (.int .i64 y) :=
                fun w' h => ⟨below_some h p0 hqb', below_some h p1 hqb'⟩
              have hck3 := fun w' (h : Below wc.heap.size wc w') => (HCK2.out w' (hside3.next h)).mono fun e w'' (a : e = .returned (.tuple #[.agg #[.int .i64 z0, .int .i64 z1, .int .i64 z2], .int .i64 z3]) ∧ Below w'.heap.size w' w'') => (⟨a.1, a.2, h.trans (a.2.mono h.size)⟩ : e = .returned (.tuple #[.agg #[.int .i64 z0, .int .i64 z1, .int .i64 z2], .int .i64 z3]) ∧ Below w'.heap.size w' w'' ∧ Below wc.heap.size wc w'')
              have KEP := Lib.hid hkeep
              have HCK3 := Lib.hid hck3
              have HS3 := Lib.hid (And.intro hside3 hxb)
              clear hkeep hck3 hside3 hxb HCK HCK2
              go_wp2
              go_cut [19, 20] from 96 to 139 (fun s17 s18 wx => ∃ yb : Nat, s17 = .pointer (some ⟨yb, 0, none⟩) ∧ s18 = .int .i64 z3 ∧ SlotIn wx yb z0 z1 z2 ∧ SlotIn wx xb z0 z1 z2 ∧ Duo w wx bp w1.heap.size bq C L)
              case first =>
                go_region_held3 (fun w' => w'.cell? ⟨qb, qo + q * 2, none⟩ = some (.int .i64 x) ∧ w'.cell? ⟨qb, qo + q * 2 + 1, none⟩ = some (.int .i64 y))
                  (first | with_reducible exact ⟨p0, p1⟩ | with_reducible exact KEP.out _ (Below.refl _ _).drew | with_reducible exact KEP.out _ (below_alloc _ _) | with_reducible exact KEP.out _ (below_alloc _ _).drew | (have hg := hbw; first | with_reducible exact KEP.out _ hbw | with_reducible exact KEP.out _ (hbw.alloc hbw.size _) | with_reducible exact KEP.out _ ((((hbw.setCell (Nat.le_refl _) _).setCell (Nat.le_refl _) _).setCell (Nat.le_refl _) _)) | with_reducible exact KEP.out _ (((hbw.setCell (Nat.le_refl _) _).setCell (Nat.le_refl _) _)) | with_reducible exact KEP.out _ (hbw.setCell (Nat.le_refl _) _)))
                  (first
                    | (go_at_call 37; refine (HCK3.out _ ?_).mono ?_; (first | with_reducible exact (Below.refl _ _).drew | with_reducible exact ((Below.refl _ _).alloc (Nat.le_refl _) _).drew | with_reducible exact Below.refl _ _ | with_reducible exact (Below.refl _ _).alloc (Nat.le_refl _) _); rintro e w2 ⟨rfl, hb2, hbw⟩; have hs2 := hb2.size; simp only [World.size_alloc, World.size_drew] at hs2; obtain ⟨hc2, hf2⟩ := bcell hb2))
                · go_wp2_with fail
                  go_meet
                  exact ⟨_, rfl, rfl, SlotIn.of (heap_alloc_new w2 _), HS3.out.2.below (hbw.alloc hbw.size _), HS3.out.1.next (hbw.alloc hbw.size _)⟩
                · have hb0 := (hb2.block wc.heap.size (by simp)).trans (heap_alloc_new wc (.cells #[.int .i64 0, .int .i64 0, .int .i64 0] 69))
                  have hbz : Below wc.heap.size wc (((w2.setCell ⟨wc.heap.size, 0, none⟩ (.int .i64 z0)).setCell ⟨wc.heap.size, 1, none⟩ (.int .i64 z1)).setCell ⟨wc.heap.size, 2, none⟩ (.int .i64 z2)) := ((hbw.setCell (Nat.le_refl _) _).setCell (Nat.le_refl _) _).setCell (Nat.le_refl _) _
                  go_wp2_with fail
                  go_meet
                  exact ⟨_, rfl, rfl, SlotIn.of (setCell_same (setCell_same (setCell_same hb0))), HS3.out.2.below hbz, HS3.out.1.next hbz⟩
              case rest =>
                obtain ⟨yb, rfl, rfl, ⟨hy, y0, y1, y2⟩, ⟨hx, x0, x1, x2⟩, hside4⟩ := hcut
                have H4 := Lib.hid hside4
                clear hside4
                have hnn : (z3 != z3) = false := by simp
                go_wp2
                go_roundg (qs.length - (q + 1))
                case measure => omega
                case rel => exact ⟨q + 1, by omega, rfl, by go_num, H4.out⟩
          · have k1 : ¬ (q : Int) < (qs.length : Int) := by omega
            have hsz9 := hbe.size
            have hEr := HE.out.below hbe
            obtain ⟨o, ho⟩ : ∃ o, decT tt tt s = o := ⟨_, rfl⟩
            have HO := Lib.hid ho
            cases o with
            | none =>
              clear ho
              go_wp2_with (first
                | (go_at_call 29; refine (LedDecode_any s hs hEr).mono ?_; rintro e w8 ⟨dv, rfl, hd, hb8⟩; rw [HO.out] at hd ⊢; dsimp only [decErr, Option.getD] at hd ⊢; obtain ⟨da, dc, rfl, -, -⟩ := hd.cells; simp only [List.length_nil])
                | (go_at_call 37; refine (check_nil _).mono ?_; rintro e w9 ⟨rfl, hb9⟩)
                | (go_at_call 33; refine (add_nil _).mono ?_; rintro e w10 ⟨rfl, hb10⟩)
                | (go_at_call 35; refine (table_nil _).mono ?_; rintro e w11 ⟨rfl, hb11⟩))
              exact bodyPost_ret (v := .bool true) (by simp [results, Tryz.results6, go_sem]) rfl ⟨rfl, below_trans (below_trans (below_trans (below_trans hbe hb8) hb9) (below_trans (below_alloc _ _) hb10)) hb11⟩
            | some V =>
              obtain ⟨hV, hsV⟩ := (decT_iff (fun _ _ => rfl) (fun _ _ => rfl) s V).1 ho
              have hes2 : encStr V = s := by unfold encStr; rw [if_pos hV, hsV]
              have hee2 : encErr V = 0 := by unfold encErr; rw [if_pos hV]
              have HV := Lib.hid (And.intro hes2 hee2)
              have htt : ((bs s).toList != (bs s).toList) = false := by simp
              clear ho hV hsV hes2 hee2
              go_wp2_with (first
                | (go_at_call 29; refine (LedDecode_any s hs hEr).mono ?_; rintro e w8 ⟨dv, rfl, hd, hb8⟩; rw [HO.out] at hd ⊢; dsimp only [decErr, Option.getD] at hd ⊢)
                | (go_at_call 27; refine (LedEncode_any hd (hEr.below hb8)).mono ?_; rintro e w12 ⟨rfl, hb12⟩; rw [HV.out.1, HV.out.2])
                | (go_at_call 37; refine (check_nil _).mono ?_; rintro e w9 ⟨rfl, hb9⟩)
                | (go_at_call 33; refine (add_nil _).mono ?_; rintro e w10 ⟨rfl, hb10⟩)
                | (go_at_call 35; refine (table_nil _).mono ?_; rintro e w11 ⟨rfl, hb11⟩))
              exact bodyPost_ret (v := .bool true) (by simp [results, Tryz.results6, go_sem]) rfl ⟨rfl, below_trans (below_trans (below_trans (below_trans (below_trans hbe hb8) hb12) hb9) (below_trans (below_alloc _ _) hb10)) hb11⟩
end Go.Proofs.YtjkobbmdemooaaaGreatDoor
