/- The walk of heliographlaw07.StrandResets. -/
import Derived.Test.YtcpaaleogmiamaaGreatDoorMr39
import Derived.Test.YtcpaaleogmiamaaGreatDoorMr40
import Derived.Test.YtcpaaleogmiamaaGreatDoorMr43
namespace Go.Proofs.YtcpaaleogmiamaaGreatDoor
open Go.RowKit

/-- What stands when i acts are played. -/
def RsR (w2 : World) (sb b mb : Nat) (sz : Int) (i : Nat) (W : World) : Prop :=
  ∃ (L : TpL) (S : Nat → Prop) (x : St) (t : Tp), Sd w2 W S sb b mb L x t ∧ Live t x ∧ x.pre = partB ∧ x.size = sz ∧ t.room = 1048576 ∧ x.segs.length ≤ i

set_option maxRecDepth 100000 in
set_option maxHeartbeats 8000000 in
theorem StResets_any {w : World} (hE : Env w) (seg off : Int) {v : Value} {A : List SAct} (h : SActsRd w v A) : Calls Tryz.prog 8 #[.int .i64 seg, v, .int .i64 off] w fun e w' => e = .returned (.bool true) ∧ Below w.heap.size w w' := by
  obtain ⟨a, c, rfl, hml⟩ := h.shape
  have hal : (A.length : Int) ≤ 9223372036854775807 := by unfold maxLen at hml; omega
  have H0 := Lib.hid (And.intro hE h)
  have haw := L7awake_any hE
  have HAW := Lib.hid haw
  clear hE h haw hml
  go_enter Tryz.func8, Tryz.ntmps8
  go_wp2_with fail
  refine HAW.out.mono ?_
  rintro e w1 ⟨rfl, hb1⟩
  have hgr := L7great_any (H0.out.2.below hb1)
  have HGR := Lib.hid hgr
  have H1 := Lib.hid (And.intro (H0.out.1.below hb1) (And.intro (H0.out.2.below hb1) hb1))
  clear hgr hb1 HAW H0
  go_wp2_with fail
  refine HGR.out.mono ?_
  rintro e w2 ⟨⟨g, rfl, hsm⟩, hw2⟩
  subst hw2
  have HSM := Lib.hid hsm
  clear hsm HGR
  cases g with
  | true =>
    go_wp2_with fail
    go_ret
    exact ⟨rfl, H1.out.2.2⟩
  | false =>
    have hop := L7opened_any H1.out.1 seg
    have hsi := sizeS_in seg
    obtain ⟨sz, hsz⟩ : ∃ sz, sizeS seg = sz := ⟨_, rfl⟩
    rw [hsz] at hop hsi
    have HOP := Lib.hid hop
    have HSZ := Lib.hid hsz
    clear hop hsz
    go_wp2_with fail
    refine HOP.out.mono ?_
    rintro e w3 ⟨b, mb, sb, L, S, rfl, hsd⟩
    have hsm : ∀ i (hi : i < A.length), i < 60 → A[i].b.recs.length ≤ 20 := fun i hi h => (HSM.out trivial i hi h).1
    have hst : RsR w2 sb b mb sz 0 w3 := ⟨L, S, _, _, hsd, ⟨rfl, rfl, rfl, rfl, List.Perm.refl _, Row.none⟩, rfl, rfl, rfl, Nat.le_refl _⟩
    have HST := Lib.hid hst
    have HS20 := Lib.hid hsm
    clear hst hsd hsm HOP HSM
    go_wp2_with fail
    go_loopg [9] A.length (fun gk v9 wr => ∃ i : Nat, i ≤ A.length ∧ i ≤ 60 ∧ gk = A.length - i ∧ v9 = .int .i64 i ∧ RsR w2 sb b mb sz i wr)
    case atStart => exact ⟨0, Nat.zero_le _, Nat.zero_le _, rfl, rfl, HST.out⟩
    case round =>
      obtain ⟨i, hi, hi60, rfl, rfl, hro⟩ := hrel
      by_cases hgo : i < A.length ∧ i < 60
      · obtain ⟨hit, hi6⟩ := hgo
        obtain ⟨L5, S5, x5, t5, hd5, hlv, hpre, hsz5, hrm, hsl5⟩ := hro
        have hacts := H1.out.2.1.below hd5.base
        obtain ⟨ab, ao, ra, rc, la, lc, fa, fc, rfl, q0, q1, q2, q3, q4, q5, q6, q7, q8, q9, q10, q11, hrr, -, -⟩ := hacts.at i hit
        obtain ⟨x, hx⟩ : ∃ x, A[i] = x := ⟨_, rfl⟩
        have h20 : x.b.recs.length ≤ 20 := by rw [← hx]; exact HS20.out i hit hi6
        rw [hx] at q0 q1 q2 q3 q4 q5 q6 q7 q8 q9 q10 q11 hrr
        have j1 : (i : Int) < (A.length : Int) := by omega
        have j2 : (0 : Int) ≤ (i : Int) := by omega
        have j3 : (i : Int) < 60 := by omega
        have H5 := Lib.hid (And.intro hd5 (And.intro hlv (And.intro hpre (And.intro hsz5 (And.intro hrm hsl5)))))
        have HRR := Lib.hid hrr
        clear hacts hd5 hlv hpre hsz5 hrm hsl5 hrr hx
        go_upto_region 13 with fail
        obtain ⟨nb, hnb⟩ : ∃ nb, wr.heap.size = nb := ⟨_, rfl⟩
        obtain ⟨wx, hwx⟩ : ∃ wx, wx = wr.alloc (.cells #[.int .i64 x.kind, .int .i64 x.b.base, .int .i64 x.b.count, .int .i64 x.b.prod, .int .i64 x.b.seq, .int .i64 x.b.time, .slice ra x.b.recs.length rc, .bool true, .int .i64 x.n, .slice la x.less.length lc, .slice fa x.fates.length fc, .string x.name] 78) := ⟨_, rfl⟩
        have hbx : Below wr.heap.size wr wx := by rw [hwx]; exact below_alloc _ _
        have hbc : wx.heap[nb]? = some (.cells #[.int .i64 x.kind, .int .i64 x.b.base, .int .i64 x.b.count, .int .i64 x.b.prod, .int .i64 x.b.seq, .int .i64 x.b.time, .slice ra x.b.recs.length rc, .bool true, .int .i64 x.n, .slice la x.less.length lc, .slice fa x.fates.length fc, .string x.name] 78 (0, 0)) := by rw [hwx, ← hnb]; exact heap_alloc_new _ _
        rw [← hwx, hnb]
        have hen : ∀ W, Below wx.heap.size wx W → Calls Tryz.prog 32 #[.pointer (some ⟨sb, 0, none⟩)] W fun e w' => e = .returned (.int .i64 (endS x5.segs)) ∧ Below wx.heap.size wx w' ∧ Below W.heap.size W w' := fun W hW => (StEnd_any ((H5.out.1.below hbx).below hW).st H5.out.1.ok).mono (fun e w' h => ⟨h.1, below_trans hW h.2, h.2⟩)
        obtain ⟨ev, hev⟩ : ∃ ev, endS x5.segs = ev := ⟨_, rfl⟩
        rw [hev] at hen
        have hnx : ∀ W, Below wx.heap.size wx W → Calls Tryz.prog 31 #[x.v (.slice ra x.b.recs.length rc) (.slice la x.less.length lc) (.slice fa x.fates.length fc) true, .int .i64 ev] W fun en w' => ∃ (va : Option Addr) (vc : Nat), en = .returned (.agg #[.int .i64 ev, .int .i64 x.b.count, .int .i64 x.b.prod, .int .i64 x.b.seq, .int .i64 x.b.time, .slice va x.b.recs.length vc]) ∧ w'.ownsRow wx.heap.size 84 4 (.slice va x.b.recs.length vc) x.b.recs.length (recCells (nextB x.b ev).recs) ∧ Below wx.heap.size wx w' ∧ Below W.heap.size W w' := by
          intro W hW
          refine (L7next_any (HRR.out.below (hbx.trans (hW.mono hbx.size))) h20 ev).mono ?_
          rintro en w' ⟨v, rfl, hv, hb⟩
          obtain ⟨va, vc, rfl, -⟩ := (Sl.of_owns hv).shape
          exact ⟨va, vc, rfl, owns_mono hv hW.size, below_trans hW hb, hb⟩
        simp only [SAct.v] at hnx
        have hk12 : ∀ W, Below wx.heap.size wx W → W.cell? ⟨nb, 0, none⟩ = some (.int .i64 x.kind) ∧ W.cell? ⟨nb, 1, none⟩ = some (.int .i64 x.b.base) ∧ W.cell? ⟨nb, 2, none⟩ = some (.int .i64 x.b.count) ∧ W.cell? ⟨nb, 3, none⟩ = some (.int .i64 x.b.prod) ∧ W.cell? ⟨nb, 4, none⟩ = some (.int .i64 x.b.seq) ∧ W.cell? ⟨nb, 5, none⟩ = some (.int .i64 x.b.time) ∧ W.cell? ⟨nb, 6, none⟩ = some (.slice ra x.b.recs.length rc) ∧
            W.cell? ⟨nb, 7, none⟩ = some (.bool true) ∧ W.cell? ⟨nb, 8, none⟩ = some (.int .i64 x.n) ∧ W.cell? ⟨nb, 9, none⟩ = some (.slice la x.less.length lc) ∧ W.cell? ⟨nb, 10, none⟩ = some (.slice fa x.fates.length fc) ∧ W.cell? ⟨nb, 11, none⟩ = some (.string x.name) := fun W hW => by
          have h := heap_below hW hbc
          exact ⟨cells_of h 0 _ rfl, cells_of h 1 _ rfl, cells_of h 2 _ rfl, cells_of h 3 _ rfl, cells_of h 4 _ rfl, cells_of h 5 _ rfl, cells_of h 6 _ rfl, cells_of h 7 _ rfl, cells_of h 8 _ rfl, cells_of h 9 _ rfl, cells_of h 10 _ rfl, cells_of h 11 _ rfl⟩
        have HEN := Lib.hid hen
        have HNX := Lib.hid hnx
        have HK := Lib.hid hk12
        have hap : ∀ W (va : Option Addr) (vc : Nat), Below wx.heap.size wx W → W.ownsRow wx.heap.size 84 4 (.slice va x.b.recs.length vc) x.b.recs.length (recCells (nextB x.b ev).recs) → Calls Tryz.prog 33 #[.pointer (some ⟨sb, 0, none⟩), .agg #[.int .i64 ev, .int .i64 x.b.count, .int .i64 x.b.prod, .int .i64 x.b.seq, .int .i64 x.b.time, .slice va x.b.recs.length vc]] W fun e w' => (∃ c : Int, e = .returned (.int .i64 c)) ∧ RsR w2 sb b mb sz (i + 1) w' := by
          intro W va vc hW ho
          obtain ⟨hd5, hlv, hpre, hsz5, hrm, hsl5⟩ := H5.out
          have hdc := (hd5.below hbx).below hW
          obtain ⟨q1, q2, q3, q4⟩ := appS_live (nextB x.b ev) hlv (by rw [hsz5]; exact hsi.1)
          have hapn := appS_segs (t := t5) (x := x5) (nextB x.b ev)
          have hap := StAppend_any H1.out.1 hdc (B := nextB x.b ev) (rcs_of_owns ho (by simp [nextB])) (by omega)
          simp only [Batch.v] at hap
          refine Calls.mono hap ?_
          rintro e w' ⟨S6, L6, rfl, hd6, -, -, -⟩
          exact ⟨⟨_, rfl⟩, L6, S6, _, _, hd6, q1, q3.trans hpre, q4.trans hsz5, q2.room.trans hrm, by omega⟩
        have HAP := Lib.hid hap
        obtain ⟨k0, k1, k2, k3, k4, k5, k6, k7, k8, k9, k10, k11⟩ := HK.out wx (Below.refl _ _)
        have hdB : Below wx.heap.size wx wx.drew := (Below.refl _ _).drew
        clear hwx hnb hbx hbc hen hnx hk12 hap hev HRR q0 q1 q2 q3 q4 q5 q6 q7 q8 q9 q10 q11
        go_region_with (first
            | (go_at_call 32; with_reducible refine (HEN.out _ hdB).mono ?_; rintro _ w6 ⟨rfl, h6, hl6⟩; obtain ⟨k0, k1, k2, k3, k4, k5, k6, k7, k8, k9, k10, k11⟩ := HK.out w6 h6)
            | (go_at_call 31; have hg := h6; refine (HNX.out _ ?_).mono ?_; with_reducible exact h6; rintro _ w7 ⟨va, vc, rfl, ho7, h7, hl7⟩)
            | (go_at_call 33; have hg := h7; refine (HAP.out _ va vc ?_ ?_).mono ?_; with_reducible exact h7; exact ho7; rintro _ w8 ⟨⟨cc, rfl⟩, hr8⟩))
        all_goals
          have HC := Lib.hid hr8
          clear hr8 k0 k1 k2 k3 k4 k5 k6 k7 k8 k9 k10 k11 h6 hl6 h7 hl7 ho7 HK HEN HNX HAP H5
          go_wp2_with fail
          go_roundg (A.length - (i + 1))
          case measure => omega
          case rel => exact ⟨i + 1, by omega, by omega, rfl, by go_num, HC.out⟩
      · have H5 := Lib.hid hro
        clear hro
        go_upto_region 9 with fail
        go_cut [33] from 26 to 32 (fun v33 wc => v33 = .bool false ∧ wc = wr)
        case first =>
          by_cases hit : i < A.length
          · have j1 : (i : Int) < (A.length : Int) := by omega
            have j2 : ¬ (i : Int) < 60 := by omega
            go_wp2_with fail
            go_meet
            exact ⟨rfl, rfl⟩
          · have j1 : ¬ (i : Int) < (A.length : Int) := by omega
            go_wp2_with fail
            go_meet
            exact ⟨rfl, rfl⟩
        case rest =>
          obtain ⟨rfl, hwc⟩ := hcut
          subst hwc
          obtain ⟨L5, S5, x5, t5, hd5, hlv, hpre, hsz5, hrm, hsl5⟩ := H5.out
          have hen := StEnd_any hd5.st hd5.ok
          have HEN := Lib.hid hen
          have H5x := Lib.hid (And.intro hd5 (And.intro hlv (And.intro hpre (And.intro hsz5 (And.intro hrm hsl5)))))
          clear hd5 hlv hpre hsz5 hrm hsl5 hen H5
          go_wp2_with fail
          refine HEN.out.mono ?_
          rintro e w4 ⟨rfl, hb4⟩
          obtain ⟨ev, hev⟩ : ∃ ev, endS x5.segs = ev := ⟨_, rfl⟩
          rw [hev]
          obtain ⟨hd5, hlv, hpre, hsz5, hrm, hsl5⟩ := H5x.out
          have hrs := StReset_any H1.out.1 (hd5.below hb4) off (by omega)
          by_cases hin : 0 ≤ off ∧ off ≤ 1099511627776
          · have j1 : ¬ off < 0 := by omega
            have j2 : ¬ 1099511627776 < off := by omega
            obtain ⟨t6, hR, hc6, hf6⟩ := resetS_live hlv (by omega) (by rw [hpre]; decide) hin.1 hin.2
            have hd6n : t6.down = false := hc6.down.trans hlv.down
            rw [hR] at hrs
            rw [hpre] at hf6
            have HRS := Lib.hid hrs
            have HF := Lib.hid (And.intro hf6 (And.intro hd6n hin))
            clear hd5 hlv hpre hsz5 hrm hsl5 hrs hR hc6 hf6 hd6n hin HEN hev hb4 H5x
            go_wp2_with fail
            refine HRS.out.mono ?_
            rintro e w5 ⟨S6, L6, rfl, hd6, -, -, -⟩
            simp only at hd6
            have hof := TOff_any hd6.tp
            have HOF := Lib.hid hof
            have H6 := Lib.hid hd6
            clear hof hd6 HRS
            go_wp2_with fail
            refine HOF.out.mono ?_
            rintro e w6 ⟨rfl, hat6, hu6⟩
            have hu6b : Upd (TpF b mb L6) w5 w6 := hu6.or (fun k e => .inl e)
            have htd6 := H6.out.td.tape hat6 hu6b (fun k hk => .inl hk) (by intro y hy; rw [offT_files] at hy; exact H6.out.names y hy)
            have hon := TOn_any hat6 (fun y hy => htd6.names y hy) (fv := .slice none 0 0) (l := []) (fun W _ => ⟨rfl, .inl ⟨rfl, rfl⟩⟩)
            have HON := Lib.hid hon
            have HT6 := Lib.hid (And.intro htd6 hu6b)
            clear hon hat6 hu6 hu6b htd6 HOF
            go_wp2_with fail
            refine HON.out.mono ?_
            rintro e w7 ⟨rfl, L7, t7, hat7, hbl7, hon7, hu7⟩
            obtain ⟨d1, d2, d3⟩ := onAt_live HF.out.2.1 HF.out.1 hon7
            have hin := HF.out.2.2
            have hu7b : Upd (TpF b mb L6) w5 w7 := HT6.out.2.trans hu7
            have htd7 : Td w2 w7 b mb L7 t7 := HT6.out.1.tape hat7 hu7 (fun k hk => .inl (by rw [hbl7] at hk; exact hk)) (by
              intro y hy
              rw [d3] at hy
              simp only [List.mem_singleton] at hy
              subst hy
              have := fileN_len (pre := partB) (n := off.toNat) (by omega)
              have h4 : partB.length = 4 := rfl
              simp only
              omega)
            have hop := StOpen_any (pre := partB) (size := sz) H1.out.1 htd7 (by decide) ⟨hsi.1, by omega⟩
            have ep : bs partB = ⟨#[112, 97, 114, 116]⟩ := rfl
            rw [openS_live d1 d3 hin.1 hin.2, ep] at hop
            have hnv : namesV t7 = [⟨off, []⟩].map (nmS partB) := namesV_of (by rw [d3]; exact List.Perm.refl _) (by simp)
            have HOP := Lib.hid hop
            have H7 := Lib.hid (And.intro hu7b (And.intro hbl7 hnv))
            have hsz := HSZ.out
            unfold sizeS at hsz
            clear hat7 hbl7 hon7 hu7 hu7b htd7 hop ep d1 d2 d3 hin hnv HON HT6 HF HSZ
            go_wp2_with fail
            refine HOP.out.mono ?_
            rintro e w8 ⟨L8, hu8, -, htd8, ub, SU, rfl, hsu, -⟩
            simp only at hsu htd8
            have hU : Upd (TpF b mb L6) w5 w8 := H7.out.1.trans (hu8.mono (fun k _ hk => by
              rcases hk with h | h | h
              · exact .inl h
              · exact .inr (.inl h)
              · exact .inr (.inr (by rw [← H7.out.2.1]; exact h))))
            obtain ⟨m1, m2, m3, m4, m5⟩ := H6.out
            have hst8 := m1.upd hU (fun k hs hf => m3 k hf hs)
            have hsd : ∀ W, Below w8.heap.size w8 W → Calls Tryz.prog 54 #[.pointer (some ⟨sb, 0, none⟩)] W fun e w' => e = .returned (.int .i64 off) ∧ w' = W := fun W hW => StStart_any (hst8.below hW)
            have hsu2 : ∀ W, Below w8.heap.size w8 W → Calls Tryz.prog 54 #[.pointer (some ⟨ub, 0, none⟩)] W fun e w' => e = .returned (.int .i64 off) ∧ w' = W := fun W hW => StStart_any (hsu.st.below hW)
            have hed : ∀ W, Below w8.heap.size w8 W → Calls Tryz.prog 32 #[.pointer (some ⟨sb, 0, none⟩)] W fun e w' => e = .returned (.int .i64 off) ∧ Below w8.heap.size w8 w' := fun W hW => (StEnd_any (hst8.below hW) m4).mono (fun e w' h => ⟨h.1, below_trans hW h.2⟩)
            have heu : ∀ W, Below w8.heap.size w8 W → Calls Tryz.prog 32 #[.pointer (some ⟨ub, 0, none⟩)] W fun e w' => e = .returned (.int .i64 off) ∧ Below w8.heap.size w8 w' := fun W hW => (StEnd_any (hsu.st.below hW) hsu.ok).mono (fun e w' h => ⟨h.1, below_trans hW h.2⟩)
            have hall : ∀ W, Below w8.heap.size w8 W → Calls Tryz.prog 39 #[.pointer (some ⟨sb, 0, none⟩)] W fun e w' => (∃ a c, e = .returned (.slice a 0 c)) ∧ Below w8.heap.size w8 w' := fun W hW => by
              obtain ⟨gv, m, D, hi⟩ := hst8.below hW
              have hal := L7all_any hi m4 (by simp) (by simp) (by simp [allB]) (by simp [allB])
              refine Calls.mono hal ?_
              rintro e w' ⟨a', c', rfl, -, hb⟩
              exact ⟨⟨a', c', rfl⟩, below_trans hW hb⟩
            have hnm : ∀ W, Below w8.heap.size w8 W → Calls Tryz.prog 48 #[.pointer (some ⟨b, 0, none⟩)] W fun e w' => (∃ a c, e = .returned (.slice a 1 c)) ∧ Below w8.heap.size w8 w' := fun W hW => by
              have hn := TNames_any (htd8.below hW).tp (htd8.below hW).names
              rw [H7.out.2.2] at hn
              refine Calls.mono hn ?_
              rintro e w' ⟨v', rfl, ho, hb⟩
              obtain ⟨a', c', rfl, -⟩ := (Sl.of_owns ho).shape
              exact ⟨⟨a', c', rfl⟩, below_trans hW hb⟩
            have hbw : Below w.heap.size w w8 := H1.out.2.2.trans (htd8.base.mono H1.out.2.2.size)
            have HSD := Lib.hid hsd
            have HSU := Lib.hid hsu2
            have HED := Lib.hid hed
            have HEU := Lib.hid heu
            have HAL := Lib.hid hall
            have HNM := Lib.hid hnm
            have HBW := Lib.hid hbw
            clear hu8 htd8 hsu hU m1 m2 m3 m4 m5 hst8 hsd hsu2 hed heu hall hnm hbw HOP H7 H6 hsz
            go_wp2_with fail
            refine (HSD.out _ (Below.refl _ _)).mono ?_
            rintro e wv ⟨rfl, hwv⟩
            subst hwv
            go_wp2_with fail
            refine (HED.out _ (Below.refl _ _)).mono ?_
            rintro e w9 ⟨rfl, hb9⟩
            go_wp2_with fail
            refine (HAL.out _ hb9).mono ?_
            rintro e w10 ⟨⟨a10, c10, rfl⟩, hb10⟩
            go_wp2_with fail
            refine (HSU.out _ hb10).mono ?_
            rintro e wv2 ⟨rfl, hwv⟩
            subst hwv
            go_wp2_with fail
            refine (HEU.out _ hb10).mono ?_
            rintro e w11 ⟨rfl, hb11⟩
            go_wp2_with fail
            refine (HNM.out _ hb11).mono ?_
            rintro e w12 ⟨⟨a12, c12, rfl⟩, hb12⟩
            have HB := Lib.hid (HBW.out.trans (hb12.mono HBW.out.size))
            clear hb9 hb10 hb11 hb12 HBW HSD HSU HED HEU HAL HNM
            go_wp2_with fail
            go_ret
            exact ⟨rfl, HB.out⟩
          · have hR : resetS t5 x5 off = (t5, x5, 1) := by rw [resetS, hlv.ready, if_neg (by decide), if_pos (by omega)]
            rw [hR] at hrs
            have HRS := Lib.hid hrs
            have HEV := Lib.hid hev
            clear hd5 hlv hpre hsz5 hrm hsl5 hrs hR HEN hev hb4 H5x
            go_wp2_with fail
            refine HRS.out.mono ?_
            rintro e w5 ⟨S6, L6, rfl, hd6, -, -, -⟩
            simp only at hd6
            have hen2 := StEnd_any hd6.st hd6.ok
            rw [HEV.out] at hen2
            have HEN2 := Lib.hid hen2
            have HBW := Lib.hid (show Below w.heap.size w w5 from H1.out.2.2.trans (hd6.base.mono H1.out.2.2.size))
            clear hen2 hd6 HRS
            have hend : ∀ w6, Below w5.heap.size w5 w6 → Below w.heap.size w w6 := fun w6 hb6 => HBW.out.trans (hb6.mono HBW.out.size)
            have HEND := Lib.hid hend
            clear hend
            by_cases hlo : off < 0
            · go_wp2_with fail
              refine HEN2.out.mono ?_
              rintro e w6 ⟨rfl, hb6⟩
              have HB := Lib.hid (HEND.out _ hb6)
              clear hb6
              go_wp2_with fail
              go_ret
              exact ⟨rfl, HB.out⟩
            · have hhi : 1099511627776 < off := by omega
              go_wp2_with fail
              refine HEN2.out.mono ?_
              rintro e w6 ⟨rfl, hb6⟩
              have HB := Lib.hid (HEND.out _ hb6)
              clear hb6
              go_wp2_with fail
              go_ret
              exact ⟨rfl, HB.out⟩
end Go.Proofs.YtcpaaleogmiamaaGreatDoor
