/- The walk of heliographlaw07.StrandDrops. -/
import Derived.Test.YtcpaaleogmiamaaGreatDoorMd37
import Derived.Test.YtcpaaleogmiamaaGreatDoorMd41
import Derived.Test.YtcpaaleogmiamaaGreatDoorMd43
import Derived.Test.YtcpaaleogmiamaaGreatDoorMd36
namespace Go.Proofs.YtcpaaleogmiamaaGreatDoor
open Go.RowKit

theorem u64_small {n : Nat} (h : n ≤ 60) : IntKind.u64.wrap (n : Int) = (n : Int) := IntWalk.u64_in _ (by omega)

/-- What stands when i acts are played. -/
def DsR (w2 : World) (sb b mb : Nat) (sz : Int) (i : Nat) (W : World) : Prop :=
  ∃ (L : TpL) (S : Nat → Prop) (x : St) (t : Tp), Sd w2 W S sb b mb L x t ∧ Full t x ∧ x.pre = partB ∧ x.size = sz ∧ t.room = 1048576 ∧ x.segs.length ≤ i ∧ (allB x.segs).length ≤ i

set_option maxRecDepth 100000 in
set_option maxHeartbeats 8000000 in
theorem StDrops_any {w : World} (hE : Env w) (seg dn : Int) {v : Value} {A : List SAct} (h : SActsRd w v A) : Calls Tryz.prog 9 #[.int .i64 seg, v, .int .i64 dn] w fun e w' => e = .returned (.bool true) ∧ Below w.heap.size w w' := by
  obtain ⟨a, c, rfl, hml⟩ := h.shape
  have hal : (A.length : Int) ≤ 9223372036854775807 := by unfold maxLen at hml; omega
  have H0 := Lib.hid (And.intro hE h)
  have haw := L7awake_any hE
  have HAW := Lib.hid haw
  clear hE h haw hml
  go_enter Tryz.func9, Tryz.ntmps9
  go_wp2_with fail
  refine HAW.out.mono ?_
  rintro e w1 ⟨rfl, hb1⟩
  have hgr := L7great_any (H0.out.2.below hb1)
  have HGR := Lib.hid hgr
  have H1 := Lib.hid (And.intro (H0.out.1.below hb1) (And.intro (H0.out.2.below hb1) hb1))
  clear hgr hb1 HAW H0
  go_wp2_with fail
  refine HGR.out.mono ?_
  rintro e w2 ⟨⟨g, rfl, hsm⟩, hw2⟩
  subst hw2
  have HSM := Lib.hid hsm
  clear hsm HGR
  cases g with
  | true =>
    go_wp2_with fail
    go_ret
    exact ⟨rfl, H1.out.2.2⟩
  | false =>
    have hop := L7opened_any H1.out.1 seg
    have hsi := sizeS_in seg
    obtain ⟨sz, hsz⟩ : ∃ sz, sizeS seg = sz := ⟨_, rfl⟩
    rw [hsz] at hop hsi
    have HOP := Lib.hid hop
    have HSZ := Lib.hid hsz
    clear hop hsz
    go_wp2_with fail
    refine HOP.out.mono ?_
    rintro e w3 ⟨b, mb, sb, L, S, rfl, hsd⟩
    have hsm : ∀ i (hi : i < A.length), i < 60 → A[i].b.recs.length ≤ 20 := fun i hi h => (HSM.out trivial i hi h).1
    have hst : DsR w2 sb b mb sz 0 w3 := ⟨L, S, _, _, hsd, ⟨⟨rfl, rfl, rfl, rfl, List.Perm.refl _, Row.none⟩, Tied.nil _⟩, rfl, rfl, rfl, Nat.le_refl _, Nat.le_refl _⟩
    have HST := Lib.hid hst
    have HS20 := Lib.hid hsm
    clear hst hsd hsm HOP HSM
    go_wp2_with fail
    go_loopg [9] A.length (fun gk v9 wr => ∃ i : Nat, i ≤ A.length ∧ i ≤ 60 ∧ gk = A.length - i ∧ v9 = .int .i64 i ∧ DsR w2 sb b mb sz i wr)
    case atStart => exact ⟨0, Nat.zero_le _, Nat.zero_le _, rfl, rfl, HST.out⟩
    case round =>
      obtain ⟨i, hi, hi60, rfl, rfl, hro⟩ := hrel
      by_cases hgo : i < A.length ∧ i < 60
      · obtain ⟨hit, hi6⟩ := hgo
        obtain ⟨L5, S5, x5, t5, hd5, hfl, hpre, hsz5, hrm, hsl5, hal5⟩ := hro
        have hacts := H1.out.2.1.below hd5.base
        obtain ⟨ab, ao, ra, rc, la, lc, fa, fc, rfl, q0, q1, q2, q3, q4, q5, q6, q7, q8, q9, q10, q11, hrr, -, -⟩ := hacts.at i hit
        obtain ⟨x, hx⟩ : ∃ x, A[i] = x := ⟨_, rfl⟩
        have h20 : x.b.recs.length ≤ 20 := by rw [← hx]; exact HS20.out i hit hi6
        rw [hx] at q0 q1 q2 q3 q4 q5 q6 q7 q8 q9 q10 q11 hrr
        have j1 : (i : Int) < (A.length : Int) := by omega
        have j2 : (0 : Int) ≤ (i : Int) := by omega
        have j3 : (i : Int) < 60 := by omega
        have H5 := Lib.hid (And.intro hd5 (And.intro hfl (And.intro hpre (And.intro hsz5 (And.intro hrm (And.intro hsl5 hal5))))))
        have HRR := Lib.hid hrr
        clear hacts hd5 hfl hpre hsz5 hrm hsl5 hal5 hrr hx
        go_upto_region 13 with fail
        obtain ⟨nb, hnb⟩ : ∃ nb, wr.heap.size = nb := ⟨_, rfl⟩
        obtain ⟨wx, hwx⟩ : ∃ wx, wx = wr.alloc (.cells #[.int .i64 x.kind, .int .i64 x.b.base, .int .i64 x.b.count, .int .i64 x.b.prod, .int .i64 x.b.seq, .int .i64 x.b.time, .slice ra x.b.recs.length rc, .bool true, .int .i64 x.n, .slice la x.less.length lc, .slice fa x.fates.length fc, .string x.name] 78) := ⟨_, rfl⟩
        have hbx : Below wr.heap.size wr wx := by rw [hwx]; exact below_alloc _ _
        have hbc : wx.heap[nb]? = some (.cells #[.int .i64 x.kind, .int .i64 x.b.base, .int .i64 x.b.count, .int .i64 x.b.prod, .int .i64 x.b.seq, .int .i64 x.b.time, .slice ra x.b.recs.length rc, .bool true, .int .i64 x.n, .slice la x.less.length lc, .slice fa x.fates.length fc, .string x.name] 78 (0, 0)) := by rw [hwx, ← hnb]; exact heap_alloc_new _ _
        rw [← hwx, hnb]
        have hen : ∀ W, Below wx.heap.size wx W → Calls Tryz.prog 32 #[.pointer (some ⟨sb, 0, none⟩)] W fun e w' => e = .returned (.int .i64 (endS x5.segs)) ∧ Below wx.heap.size wx w' ∧ Below W.heap.size W w' := fun W hW => (StEnd_any ((H5.out.1.below hbx).below hW).st H5.out.1.ok).mono (fun e w' h => ⟨h.1, below_trans hW h.2, h.2⟩)
        obtain ⟨ev, hev⟩ : ∃ ev, endS x5.segs = ev := ⟨_, rfl⟩
        rw [hev] at hen
        have hnx : ∀ W, Below wx.heap.size wx W → Calls Tryz.prog 31 #[x.v (.slice ra x.b.recs.length rc) (.slice la x.less.length lc) (.slice fa x.fates.length fc) true, .int .i64 ev] W fun en w' => ∃ (va : Option Addr) (vc : Nat), en = .returned (.agg #[.int .i64 ev, .int .i64 x.b.count, .int .i64 x.b.prod, .int .i64 x.b.seq, .int .i64 x.b.time, .slice va x.b.recs.length vc]) ∧ w'.ownsRow wx.heap.size 84 4 (.slice va x.b.recs.length vc) x.b.recs.length (recCells (nextB x.b ev).recs) ∧ Below wx.heap.size wx w' ∧ Below W.heap.size W w' := by
          intro W hW
          refine (L7next_any (HRR.out.below (hbx.trans (hW.mono hbx.size))) h20 ev).mono ?_
          rintro en w' ⟨v, rfl, hv, hb⟩
          obtain ⟨va, vc, rfl, -⟩ := (Sl.of_owns hv).shape
          exact ⟨va, vc, rfl, owns_mono hv hW.size, below_trans hW hb, hb⟩
        simp only [SAct.v] at hnx
        have hk12 : ∀ W, Below wx.heap.size wx W → W.cell? ⟨nb, 0, none⟩ = some (.int .i64 x.kind) ∧ W.cell? ⟨nb, 1, none⟩ = some (.int .i64 x.b.base) ∧ W.cell? ⟨nb, 2, none⟩ = some (.int .i64 x.b.count) ∧ W.cell? ⟨nb, 3, none⟩ = some (.int .i64 x.b.prod) ∧ W.cell? ⟨nb, 4, none⟩ = some (.int .i64 x.b.seq) ∧ W.cell? ⟨nb, 5, none⟩ = some (.int .i64 x.b.time) ∧ W.cell? ⟨nb, 6, none⟩ = some (.slice ra x.b.recs.length rc) ∧
            W.cell? ⟨nb, 7, none⟩ = some (.bool true) ∧ W.cell? ⟨nb, 8, none⟩ = some (.int .i64 x.n) ∧ W.cell? ⟨nb, 9, none⟩ = some (.slice la x.less.length lc) ∧ W.cell? ⟨nb, 10, none⟩ = some (.slice fa x.fates.length fc) ∧ W.cell? ⟨nb, 11, none⟩ = some (.string x.name) := fun W hW => by
          have h := heap_below hW hbc
          exact ⟨cells_of h 0 _ rfl, cells_of h 1 _ rfl, cells_of h 2 _ rfl, cells_of h 3 _ rfl, cells_of h 4 _ rfl, cells_of h 5 _ rfl, cells_of h 6 _ rfl, cells_of h 7 _ rfl, cells_of h 8 _ rfl, cells_of h 9 _ rfl, cells_of h 10 _ rfl, cells_of h 11 _ rfl⟩
        have HEN := Lib.hid hen
        have HNX := Lib.hid hnx
        have HK := Lib.hid hk12
        have hap : ∀ W (va : Option Addr) (vc : Nat), Below wx.heap.size wx W → W.ownsRow wx.heap.size 84 4 (.slice va x.b.recs.length vc) x.b.recs.length (recCells (nextB x.b ev).recs) → Calls Tryz.prog 33 #[.pointer (some ⟨sb, 0, none⟩), .agg #[.int .i64 ev, .int .i64 x.b.count, .int .i64 x.b.prod, .int .i64 x.b.seq, .int .i64 x.b.time, .slice va x.b.recs.length vc]] W fun e w' => (∃ c : Int, e = .returned (.int .i64 c)) ∧ DsR w2 sb b mb sz (i + 1) w' := by
          intro W va vc hW ho
          obtain ⟨hd5, hfl, hpre, hsz5, hrm, hsl5, hal5⟩ := H5.out
          have hdc := (hd5.below hbx).below hW
          obtain ⟨q1, q2, q3, q4⟩ := appS_live (nextB x.b ev) hfl.live (by rw [hsz5]; exact hsi.1)
          have hff := appS_full (nextB x.b ev) hfl (by rw [hsz5]; exact hsi.1)
          obtain ⟨-, hl1, hl2⟩ := appS_lin (t := t5) hfl.live.row.chain (nextB x.b ev)
          have hal6 : (allB (appS t5 x5 (nextB x.b ev)).2.1.segs).length ≤ i + 1 := by
            by_cases h0 : (appS t5 x5 (nextB x.b ev)).2.2 = 0
            · rw [(hl1 h0).1, List.length_append]; simp; omega
            · rw [hl2 h0]; omega
          have hapn := appS_segs (t := t5) (x := x5) (nextB x.b ev)
          have hap := StAppend_any H1.out.1 hdc (B := nextB x.b ev) (rcs_of_owns ho (by simp [nextB])) (by omega)
          simp only [Batch.v] at hap
          refine Calls.mono hap ?_
          rintro e w' ⟨S6, L6, rfl, hd6, -, -, -⟩
          exact ⟨⟨_, rfl⟩, L6, S6, _, _, hd6, hff, q3.trans hpre, q4.trans hsz5, q2.room.trans hrm, by omega, hal6⟩
        have HAP := Lib.hid hap
        obtain ⟨k0, k1, k2, k3, k4, k5, k6, k7, k8, k9, k10, k11⟩ := HK.out wx (Below.refl _ _)
        have hdB : Below wx.heap.size wx wx.drew := (Below.refl _ _).drew
        clear hwx hnb hbx hbc hen hnx hk12 hap hev HRR q0 q1 q2 q3 q4 q5 q6 q7 q8 q9 q10 q11
        go_region_with (first
            | (go_at_call 32; with_reducible refine (HEN.out _ hdB).mono ?_; rintro _ w6 ⟨rfl, h6, hl6⟩; obtain ⟨k0, k1, k2, k3, k4, k5, k6, k7, k8, k9, k10, k11⟩ := HK.out w6 h6)
            | (go_at_call 31; have hg := h6; refine (HNX.out _ ?_).mono ?_; with_reducible exact h6; rintro _ w7 ⟨va, vc, rfl, ho7, h7, hl7⟩)
            | (go_at_call 33; have hg := h7; refine (HAP.out _ va vc ?_ ?_).mono ?_; with_reducible exact h7; exact ho7; rintro _ w8 ⟨⟨cc, rfl⟩, hr8⟩))
        all_goals
          have HC := Lib.hid hr8
          clear hr8 k0 k1 k2 k3 k4 k5 k6 k7 k8 k9 k10 k11 h6 hl6 h7 hl7 ho7 HK HEN HNX HAP H5
          go_wp2_with fail
          go_roundg (A.length - (i + 1))
          case measure => omega
          case rel => exact ⟨i + 1, by omega, by omega, rfl, by go_num, HC.out⟩
      · have H5 := Lib.hid hro
        clear hro
        go_upto_region 9 with fail
        go_cut [36] from 29 to 35 (fun v36 wc => v36 = .bool false ∧ wc = wr)
        case first =>
          by_cases hit : i < A.length
          · have j1 : (i : Int) < (A.length : Int) := by omega
            have j2 : ¬ (i : Int) < 60 := by omega
            go_wp2_with fail
            go_meet
            exact ⟨rfl, rfl⟩
          · have j1 : ¬ (i : Int) < (A.length : Int) := by omega
            go_wp2_with fail
            go_meet
            exact ⟨rfl, rfl⟩
        case rest =>
          obtain ⟨rfl, hwc⟩ := hcut
          subst hwc
          obtain ⟨L5, S5, x5, t5, hd5, hfl, hpre, hsz5, hrm, hsl5, hal5⟩ := H5.out
          obtain ⟨gv5, m5, D5, hin5⟩ := hd5.st
          have hba := StBases_any hin5 (by omega)
          have HBA := Lib.hid hba
          have H5x := Lib.hid (And.intro hd5 (And.intro hfl (And.intro hpre (And.intro hsz5 (And.intro hrm (And.intro hsl5 hal5))))))
          obtain ⟨bn, hbn⟩ : ∃ bn, x5.segs.length = bn := ⟨_, rfl⟩
          have hbn60 : bn ≤ 60 := by omega
          have HBN := Lib.hid hbn
          clear hd5 hfl hpre hsz5 hrm hsl5 hal5 hba H5 hin5 hbn
          go_wp2_with fail
          refine HBA.out.mono ?_
          rintro e w4 ⟨bv, rfl, hbo, hb4⟩
          rw [List.length_map, HBN.out] at hbo
          obtain ⟨ba, bc, rfl, -⟩ := (Sl.of_owns hbo).shape
          obtain ⟨hd5, hfl, hpre, hsz5, hrm, hsl5, hal5⟩ := H5x.out
          by_cases h0 : bn = 0
          · subst h0
            have hs0 : x5.segs = [] := List.length_eq_zero_iff.1 HBN.out
            have hdr := StDrop_any H1.out.1 (hd5.below hb4) 0 (by omega)
            have e0 : dropF t5 x5 0 = (t5, x5, 0) := by
              rw [dropF, hfl.live.ready, if_neg (by decide), if_neg (by rw [hs0]; simp)]
              rfl
            have e1 : dropF t5 x5 1 = (t5, x5, 1) := by
              rw [dropF, hfl.live.ready, if_neg (by decide), if_pos (by rw [hs0]; simp)]
            rw [e0] at hdr
            have HDR := Lib.hid hdr
            have HE := Lib.hid (And.intro e1 hsl5)
            clear hd5 hfl hpre hsz5 hrm hsl5 hal5 hdr e0 e1 hbo hb4 H5x HBA HBN hs0
            go_wp2_with fail
            refine HDR.out.mono ?_
            rintro e w5 ⟨S6, L6, rfl, hd6, -, -, -⟩
            simp only at hd6
            have hdr := StDrop_any H1.out.1 hd6 1 (by have := HE.out.2; omega)
            rw [HE.out.1] at hdr
            have HDR2 := Lib.hid hdr
            clear hd6 hdr HDR
            go_wp2_with fail
            refine HDR2.out.mono ?_
            rintro e w6 ⟨S7, L7, rfl, hd7, -, -, -⟩
            have HB := Lib.hid (H1.out.2.2.trans (hd7.base.mono H1.out.2.2.size))
            clear hd7 HDR2
            go_wp2_with fail
            go_ret
            exact ⟨rfl, HB.out⟩
          · obtain ⟨k, hk, hkl⟩ := u64_mod7 dn (bn : Int) (by omega)
            have HK := Lib.hid hk
            clear hk
            have hkn : k < bn := by omega
            have hu2 : wrap64 (k : Int) = (k : Int) := IntWalk.wrap64_in _ (by omega)
            have hu3 : ¬ (bn : Int) = 0 := by omega
            have hu4 : ((bn : Int) == 0) = false := by simpa using h0
            obtain ⟨bb, bo, bc2, eb, -, -, -, hbc⟩ := Rd.at (Sl.of_owns hbo).rd (by omega)
            simp only [Value.slice.injEq, true_and] at eb
            obtain ⟨rfl, rfl⟩ := eb
            have hkx : k < x5.segs.length := by rw [HBN.out]; exact hkn
            obtain ⟨ob, hob⟩ : ∃ ob, (x5.segs[k]'hkx).base = ob := ⟨_, rfl⟩
            have hP : ∀ V, Rd V 1 (.slice (some ⟨bb, bo, none⟩) bn bc) bn (intCells (x5.segs.map (·.base))) → V.cell? ⟨bb, bo + k, none⟩ = some (.int .i64 ob) := by
              intro V hV
              obtain ⟨b', o', c', e', -, -, -, hc'⟩ := Rd.at hV (by omega)
              simp only [Value.slice.injEq, Option.some.injEq, Addr.mk.injEq, and_true, true_and] at e'
              obtain ⟨⟨rfl, rfl⟩, -⟩ := e'
              refine hc' k _ ?_
              simp only [intCells, List.getElem?_map, List.getElem?_eq_getElem hkx, Option.map_some, hob]
            have hlX : ∀ q, SdF S5 b mb L5 q → q < wc.heap.size := hd5.lt
            have HBO := Lib.hid (And.intro hbo (And.intro hP (And.intro hlX hd5.base.size)))
            have HSM := Lib.hid (And.intro hal5 (And.intro hfl (And.intro hpre (And.intro hsz5 hrm))))
            have HD4 := Lib.hid (hd5.below hb4)
            have HOB := Lib.hid hob
            have hz4 := hb4.size
            clear hd5 hfl hpre hsz5 hrm hsl5 hal5 hbc hP hlX hob hbo hb4 HBA hkl
            have hk := HK.out
            have hu1 : IntKind.u64.wrap (bn : Int) = (bn : Int) := u64_small hbn60
            go_upto_region 19 with fail
            clear hk hu1
            obtain ⟨w5, hw5⟩ : ∃ w5, w5 = w4.alloc (.cells #[] 40) := ⟨_, rfl⟩
            obtain ⟨nw, hnw⟩ : ∃ nw, w4.heap.size = nw := ⟨_, rfl⟩
            have hst : Sd w2 w5 S5 sb b mb L5 x5 t5 ∧ WnR w2 w5 (SdF S5 b mb L5) (fun V => V.cell? ⟨bb, bo + k, none⟩ = some (.int .i64 ob)) (.slice (some ⟨nw, 0, none⟩) 0 0) (allB ((x5.segs.take k).drop k)) := by
              have hb5 : Below w4.heap.size w4 w5 := by rw [hw5]; exact below_alloc _ _
              obtain ⟨hbo, hP, hlX, hbz⟩ := HBO.out
              have hsz5 := hb5.size
              refine ⟨HD4.out.below hb5, [], fun g => (Value.slice (some ⟨bb, bo, none⟩) bn bc).ownBlock = some g, ?_, ?_, ?_, by simp, ?_, ?_⟩
              · rw [List.drop_eq_nil_of_le (by simp; omega)]; rfl
              · rw [hw5, ← hnw]; exact World.ownsRow_made w4 #[] 0 HD4.out.base.size (Nat.zero_le _) rfl
              · intro g hg
                simp only [Value.ownBlock, Option.some.injEq] at hg
                subst hg
                refine ⟨fun hs => by have := hlX _ hs; omega, fun e => ?_⟩
                have := (owns_lt hbo _ e).2
                omega
              · have h1 := owns_upd hbo (Upd.of_below (F := fun _ => False) hb5) (fun _ _ h => h)
                exact (owns_inS h1 (fun g hg => hg)).imp (fun V hV => hP V hV)
              · intro g hg
                have h1 := owns_lt hbo g hg
                exact ⟨fun hs => by have := hlX _ hs; omega, by omega, by omega⟩
            rw [← hw5, hnw]
            have HST2 := Lib.hid hst
            clear hst hw5 hnw hz4 HD4 HBO HK
            go_wp2_with fail
            go_loopg [13, 14] (bn - k) (fun gk v13 v14 wr => ∃ i2 : Nat, k ≤ i2 ∧ i2 ≤ bn ∧ gk = bn - i2 ∧ v14 = .int .i64 i2 ∧ Sd w2 wr S5 sb b mb L5 x5 t5 ∧ WnR w2 wr (SdF S5 b mb L5) (fun V => V.cell? ⟨bb, bo + k, none⟩ = some (.int .i64 ob)) v13 (allB ((x5.segs.take i2).drop k)))
            case atStart => exact ⟨k, Nat.le_refl _, by omega, rfl, rfl, HST2.out.1, HST2.out.2⟩
            case round =>
              obtain ⟨i2, hik, hib, rfl, rfl, hsd, hwn⟩ := hrel
              by_cases hlt : i2 < bn
              · have hix : i2 < x5.segs.length := by rw [HBN.out]; exact hlt
                have hall := HSM.out.1
                have hstep := allB_step hik hix
                have hsub := allB_sub ((List.drop_sublist k (x5.segs.take (i2 + 1))).trans (List.take_sublist (i2 + 1) x5.segs))
                obtain ⟨g2, hg2⟩ : ∃ g2, x5.segs[i2] = g2 := ⟨_, rfl⟩
                obtain ⟨l0, hl0⟩ : ∃ l0, allB ((x5.segs.take i2).drop k) = l0 := ⟨_, rfl⟩
                obtain ⟨l1, hl1⟩ : ∃ l1, g2.list = l1 := ⟨_, rfl⟩
                rw [hg2, hl0, hl1] at hstep
                rw [hl0] at hwn
                rw [hstep, List.length_append] at hsub
                obtain ⟨gv, m, D, hin⟩ := hsd.st
                have hsg := StSeg_any hin hsd.ok i2 hix (by rw [hg2, hl1]; omega)
                rw [hg2, hl1] at hsg
                obtain ⟨wa, wcp, rfl⟩ := hwn.shape
                have HSG := Lib.hid hsg
                have HW := Lib.hid (And.intro hsd (And.intro hwn hstep))
                have hlen60 : l0.length + l1.length ≤ 60 := by omega
                have j1 : (i2 : Int) < (bn : Int) := by omega
                clear hall hstep hsub hg2 hl0 hl1 hsg hsd hwn hin hix
                go_wp2_with fail
                refine HSG.out.mono ?_
                rintro e w6 ⟨v6, rfl, hc6, hb6⟩
                obtain ⟨va, vc, rfl, -⟩ := hc6.here.cells
                obtain ⟨hsd, hwn, hstep⟩ := HW.out
                obtain ⟨xs, news, g1, g3, g4, g5⟩ := hwn.grow hsd.lt hb6 hc6 hsd.base.size
                have hfin : ∀ a' c' w7, w7.ownsRow w2.heap.size 40 6 (.slice a' (l0.length + l1.length) c') (l0.length + l1.length) (xs ++ news) → w6.grownBy w7 (Value.slice wa l0.length wcp).ownBlock →
                    ((Value.slice a' (l0.length + l1.length) c').ownBlock = (Value.slice wa l0.length wcp).ownBlock ∨ (Value.slice a' (l0.length + l1.length) c').ownBlock = some w6.heap.size) →
                    Sd w2 w7 S5 sb b mb L5 x5 t5 ∧ WnR w2 w7 (SdF S5 b mb L5) (fun V => V.cell? ⟨bb, bo + k, none⟩ = some (.int .i64 ob)) (.slice a' (l0.length + l1.length) c') (allB ((x5.segs.take (i2 + 1)).drop k)) := by
                  intro a' c' w7 h1 h2 h3
                  rw [hstep]
                  refine ⟨(hsd.below hb6).other (upd_grown h2) (fun q hq => ?_), g5 a' c' w7 h1 h2 h3⟩
                  obtain ⟨q1, q2⟩ := hwn.own q hq.symm
                  exact ⟨fun e => q1 (.inl e), fun e => q1 (.inr e), q2⟩
                have HF := Lib.hid hfin
                have HG := Lib.hid (And.intro g1 (And.intro g3 (And.intro g4 (show w2.heap.size ≤ w6.heap.size from Nat.le_trans hsd.base.size hb6.size))))
                clear hfin g1 g3 g4 g5 hsd hwn hstep hc6 hb6 HSG HW
                obtain ⟨i0, hi7, hz0, hz1, hz2⟩ := info_parts info_Batch6
                go_wp2_with (first | (at_builtin; refine wpList_append_any rfl _ _ 89 rfl w2.heap.size 40 i0 _ 6 64 und_Batches6 hi7 hz0 hz1 hz2 rfl (by decide) (.slice wa l0.length wcp) l0.length xs rfl HG.out.1 (.slice va l1.length vc) l1.length news rfl HG.out.2.1 HG.out.2.2.1 (by unfold maxLen; omega) (by omega) HG.out.2.2.2 ?_; intro a7 c7 w7 hown7 hgrow7 hat7; have HR := Lib.hid (HF.out _ _ _ hown7 hgrow7 hat7); clear hown7 hgrow7 hat7))
                go_roundg (bn - (i2 + 1))
                case measure => omega
                case rel => exact ⟨i2 + 1, by omega, by omega, rfl, by go_num, HR.out.1, HR.out.2⟩
              · obtain rfl : bn = i2 := by omega
                rw [List.take_of_length_le (by rw [HBN.out]; exact Nat.le_refl _)] at hwn
                obtain ⟨wa, wcp, rfl⟩ := hwn.shape
                obtain ⟨hall, hfl, hpre, hsz5, hrm⟩ := HSM.out
                obtain ⟨l, hl⟩ : ∃ l, allB (x5.segs.drop k) = l := ⟨_, rfl⟩
                rw [hl] at hwn ⊢
                have hq : DqR w2 sb b mb (fun V => V.cell? ⟨bb, bo + k, none⟩ = some (.int .i64 ob)) (.slice wa l.length wcp) l x5 t5 wr := ⟨L5, S5, hsd, hwn⟩
                obtain ⟨t7, hd7, hc7, hf7⟩ := dropS_full k t5 x5 hfl (by rw [HBN.out]; omega)
                obtain ⟨x7, hx7⟩ : ∃ x7 : St, { x5 with segs := x5.segs.drop k } = x7 := ⟨_, rfl⟩
                rw [hx7] at hd7 hf7
                obtain ⟨t8, hs8, hc8, hn8, ht8, hu8⟩ := syncS_full hf7
                obtain ⟨ev, hev⟩ : ∃ ev, endS x5.segs = ev := ⟨_, rfl⟩
                have hx7s : x7.segs = x5.segs.drop k := by rw [← hx7]
                have hkx : k < x5.segs.length := by rw [HBN.out]; exact hkn
                have hst7 : startS x7.segs = ob := by rw [hx7s, startS_drop hkx]; exact HOB.out
                have hen7 : endS x7.segs = ev := by rw [hx7s, endS_drop hkx]; exact hev
                have hal7 : allB x7.segs = l := by rw [hx7s]; exact hl
                have hln7 : x7.segs.length ≤ 1000 := by rw [hx7s, List.length_drop, HBN.out]; omega
                have hll : l.length ≤ 60 := by rw [← hl]; exact Nat.le_trans (allB_sub (List.drop_sublist k x5.segs)) (by omega)
                have hkd1 : dropF t5 x5 (bn : Int) = (t5, x5, 1) := by
                  rw [dropF, hfl.live.ready, if_neg (by decide), if_pos (by rw [HBN.out]; omega)]
                have hkd2 : dropF t5 x5 (k : Int) = (t7, x7, 0) := by
                  rw [dropF, hfl.live.ready, if_neg (by decide), if_neg (by rw [HBN.out]; omega), Int.toNat_natCast, hd7]
                have hD1 : ∀ W, DqR w2 sb b mb (fun V => V.cell? ⟨bb, bo + k, none⟩ = some (.int .i64 ob)) (.slice wa l.length wcp) l x5 t5 W → Calls Tryz.prog 55 #[.pointer (some ⟨sb, 0, none⟩), .int .i64 (bn : Int)] W fun e w' => e = .returned (.int .i64 1) ∧ DqR w2 sb b mb (fun V => V.cell? ⟨bb, bo + k, none⟩ = some (.int .i64 ob)) (.slice wa l.length wcp) l x5 t5 w' := fun W hW => by
                  have h := hW.act (r := (t5, x5, 1)) (fun S L h => by have := StDrop_any H1.out.1 h (bn : Int) (by rw [HBN.out]; omega); rw [hkd1] at this; exact this)
                  exact h
                have hD2 : ∀ W, DqR w2 sb b mb (fun V => V.cell? ⟨bb, bo + k, none⟩ = some (.int .i64 ob)) (.slice wa l.length wcp) l x5 t5 W → Calls Tryz.prog 55 #[.pointer (some ⟨sb, 0, none⟩), .int .i64 (k : Int)] W fun e w' => e = .returned (.int .i64 0) ∧ DqR w2 sb b mb (fun V => V.cell? ⟨bb, bo + k, none⟩ = some (.int .i64 ob)) (.slice wa l.length wcp) l x7 t7 w' := fun W hW => by
                  have h := hW.act (r := (t7, x7, 0)) (fun S L h => by have := StDrop_any H1.out.1 h (k : Int) (by rw [HBN.out]; omega); rw [hkd2] at this; exact this)
                  exact h
                have hSt : ∀ W, DqR w2 sb b mb (fun V => V.cell? ⟨bb, bo + k, none⟩ = some (.int .i64 ob)) (.slice wa l.length wcp) l x7 t7 W → Calls Tryz.prog 54 #[.pointer (some ⟨sb, 0, none⟩)] W fun e w' => e = .returned (.int .i64 ob) ∧ w' = W := fun W hW => by have h := hW.start; rw [hst7] at h; exact h
                have hEn : ∀ W, DqR w2 sb b mb (fun V => V.cell? ⟨bb, bo + k, none⟩ = some (.int .i64 ob)) (.slice wa l.length wcp) l x7 t7 W → Calls Tryz.prog 32 #[.pointer (some ⟨sb, 0, none⟩)] W fun e w' => e = .returned (.int .i64 ev) ∧ DqR w2 sb b mb (fun V => V.cell? ⟨bb, bo + k, none⟩ = some (.int .i64 ob)) (.slice wa l.length wcp) l x7 t7 w' := fun W hW => by have h := hW.end; rw [hen7] at h; exact h
                have hEn0 : ∀ W, DqR w2 sb b mb (fun V => V.cell? ⟨bb, bo + k, none⟩ = some (.int .i64 ob)) (.slice wa l.length wcp) l x5 t5 W → Calls Tryz.prog 32 #[.pointer (some ⟨sb, 0, none⟩)] W fun e w' => e = .returned (.int .i64 ev) ∧ DqR w2 sb b mb (fun V => V.cell? ⟨bb, bo + k, none⟩ = some (.int .i64 ob)) (.slice wa l.length wcp) l x5 t5 w' := fun W hW => by have h := hW.end; rw [hev] at h; exact h
                have hAl : ∀ W, DqR w2 sb b mb (fun V => V.cell? ⟨bb, bo + k, none⟩ = some (.int .i64 ob)) (.slice wa l.length wcp) l x7 t7 W → Calls Tryz.prog 39 #[.pointer (some ⟨sb, 0, none⟩)] W fun e w' => (∃ va vc, e = .returned (.slice va l.length vc) ∧ BsRd w' (.slice va l.length vc) l) ∧ DqR w2 sb b mb (fun V => V.cell? ⟨bb, bo + k, none⟩ = some (.int .i64 ob)) (.slice wa l.length wcp) l x7 t7 w' := fun W hW => by have h := hW.all hf7.live.row hln7 (by rw [hal7]; omega); rw [hal7] at h; exact h
                have hBa : ∀ W v, DqR w2 sb b mb (fun V => V.cell? ⟨bb, bo + k, none⟩ = some (.int .i64 ob)) (.slice wa l.length wcp) l x7 t7 W → BsRd W v l → Calls Tryz.prog 41 #[v, .slice wa l.length wcp] W fun e w' => e = .returned (.bool true) ∧ DqR w2 sb b mb (fun V => V.cell? ⟨bb, bo + k, none⟩ = some (.int .i64 ob)) (.slice wa l.length wcp) l x7 t7 w' := fun W v hW hv => hW.same hv
                have hSy : ∀ W, DqR w2 sb b mb (fun V => V.cell? ⟨bb, bo + k, none⟩ = some (.int .i64 ob)) (.slice wa l.length wcp) l x7 t7 W → Calls Tryz.prog 36 #[.pointer (some ⟨sb, 0, none⟩)] W fun e w' => e = .returned (.int .i64 0) ∧ DqR w2 sb b mb (fun V => V.cell? ⟨bb, bo + k, none⟩ = some (.int .i64 ob)) (.slice wa l.length wcp) l x7 t8 w' := fun W hW => by
                  have h := hW.act (r := (t8, x7, 0)) (fun S L h => by have := StSync_any H1.out.1 h; rw [hs8] at this; exact this)
                  exact h
                obtain ⟨Q5, hQ5⟩ : ∃ Q5 : World → Prop, DqR w2 sb b mb (fun V => V.cell? ⟨bb, bo + k, none⟩ = some (.int .i64 ob)) (.slice wa l.length wcp) l x5 t5 = Q5 := ⟨_, rfl⟩
                obtain ⟨Q7, hQ7⟩ : ∃ Q7 : World → Prop, DqR w2 sb b mb (fun V => V.cell? ⟨bb, bo + k, none⟩ = some (.int .i64 ob)) (.slice wa l.length wcp) l x7 t7 = Q7 := ⟨_, rfl⟩
                obtain ⟨Q8, hQ8⟩ : ∃ Q8 : World → Prop, DqR w2 sb b mb (fun V => V.cell? ⟨bb, bo + k, none⟩ = some (.int .i64 ob)) (.slice wa l.length wcp) l x7 t8 = Q8 := ⟨_, rfl⟩
                have hP7 : ∀ W, Q7 W → W.cell? ⟨bb, bo + k, none⟩ = some (.int .i64 ob) := fun W hW => by rw [← hQ7] at hW; exact hW.p
                have hdr : ∀ W, Q5 W → Q5 W.drew := fun W hW => by rw [← hQ5] at hW ⊢; exact hW.drew
                rw [hQ5] at hq hD1 hD2 hEn0
                rw [hQ7] at hD2 hSt hEn hAl hBa hSy
                rw [hQ8] at hSy
                have HD1 := Lib.hid hD1
                have HD2 := Lib.hid hD2
                have HTt := Lib.hid hSt
                have HEn := Lib.hid hEn
                have HEn0 := Lib.hid hEn0
                have HAl := Lib.hid hAl
                have HBa := Lib.hid hBa
                have HSy := Lib.hid hSy
                have HP7 := Lib.hid hP7
                have HDR := Lib.hid hdr
                have HQ := Lib.hid hq
                have H8 := Lib.hid (And.intro hQ8 (And.intro ht8 (And.intro hu8 (And.intro (hc8.trans (Calm.refl t8)) (And.intro hf7 (And.intro hc7 (And.intro hn8 (And.intro hst7 (And.intro hal7 (And.intro hpre (And.intro hx7 hln7)))))))))))
                clear hsd hwn HST2 hall hfl hpre hsz5 hrm hl hq hd7 hc7 hf7 hx7 hs8 hc8 hn8 ht8 hu8 hev hx7s hst7 hen7 hal7 hln7 hkd1 hkd2 hD1 hD2 hSt hEn hEn0 hAl hBa hSy hQ5 hQ7 hQ8 hP7 hdr hkx
                go_wp2_with fail
                refine (HEn0.out _ HQ.out).mono ?_
                rintro e wa5 ⟨rfl, hq5⟩
                have hk1 : (0 : Int) ≤ (k : Int) := by omega
                have hk2 : (k : Int) < (bn : Int) := by omega
                have hq5d := HDR.out _ hq5
                have hb1 : (ob != ob) = false := by simp
                have hb2 : (ev != ev) = false := by simp
                have hb3 : ((1 : Int) != 1) = false := by decide
                have hb4 : ((0 : Int) != 0) = false := by decide
                go_upto_region 24 with fail
                go_cut [122] from 85 to 121 (fun v122 wc => v122 = .bool false ∧ Q8 wc)
                case first =>
                  go_region_with (first
                      | (go_at_call 55; with_reducible refine (HD1.out _ hq5d).mono ?_; rintro _ wb1 ⟨rfl, hqb1⟩)
                      | (go_at_call 55; with_reducible refine (HD2.out _ hqb1).mono ?_; rintro _ wb2 ⟨rfl, hqb2⟩; have hcell := HP7.out _ hqb2)
                      | (go_at_call 54; with_reducible refine (HTt.out _ hqb2).mono ?_; rintro _ wb3 ⟨rfl, hwb3⟩; subst hwb3)
                      | (go_at_call 32; with_reducible refine (HEn.out _ hqb2).mono ?_; rintro _ wb4 ⟨rfl, hqb4⟩)
                      | (go_at_call 39; with_reducible refine (HAl.out _ hqb4).mono ?_; rintro _ wb5 ⟨⟨va5, vc5, rfl, hv5⟩, hqb5⟩)
                      | (go_at_call 41; with_reducible refine (HBa.out _ _ hqb5 hv5).mono ?_; rintro _ wb6 ⟨rfl, hqb6⟩)
                      | (go_at_call 36; with_reducible refine (HSy.out _ hqb6).mono ?_; rintro _ wb7 ⟨rfl, hqb7⟩))
                  all_goals
                    go_wp2_with fail
                    go_meet
                    exact ⟨rfl, hqb7⟩
                case rest =>
                  obtain ⟨rfl, hq8⟩ := hcut
                  obtain ⟨hQ8, ht8, hu8, hc8, hf7, hc7, hn8, hst7, hal7, hpre, hx7, hln7⟩ := H8.out
                  rw [← hQ8] at hq8
                  obtain ⟨L8, S8, hd8, hw8⟩ := hq8
                  have hlv8 : Live t8 x7 := hf7.live.calm hc8 hn8
                  have hpre7 : x7.pre = partB := by rw [← hx7]; exact hpre
                  have hsf := sure_files hlv8 hu8
                  have hof := TOff_any hd8.tp
                  have HOF := Lib.hid hof
                  have HT := Lib.hid (And.intro hd8 hw8)
                  have HS8 := Lib.hid (And.intro hsf (And.intro hlv8 (And.intro ht8 (And.intro hpre7 (And.intro hst7 (And.intro hal7 (And.intro hln7 hf7.live.row)))))))
                  clear hQ8 ht8 hu8 hc8 hf7 hc7 hn8 hst7 hal7 hpre hx7 hln7 hlv8 hpre7 hsf hof hd8 hw8 HD1 HD2 HTt HEn HEn0 HAl HBa HSy HP7 HDR HQ H8 hq5 hq5d
                  go_wp2_with fail
                  refine HOF.out.mono ?_
                  rintro e wd6 ⟨rfl, hat6, hu6⟩
                  obtain ⟨hd8, hw8⟩ := HT.out
                  have hu6b := hu6.or (G := TpF b mb L8) (fun k e => .inl e)
                  have htd6 := hd8.td.tape hat6 hu6b (fun k hk => .inl hk) (by intro y hy; rw [offT_files] at hy; exact hd8.names y hy)
                  have hw6 := hw8.upd (X' := SdF S8 b mb L8) hu6b (fun k hk => .inl (.inr hk)) (fun k hk => .inl hk)
                  have hon := TOn_any hat6 (fun y hy => htd6.names y hy) (fv := .slice none 0 0) (l := []) (fun W _ => ⟨rfl, .inl ⟨rfl, rfl⟩⟩)
                  have HON := Lib.hid hon
                  have HT6 := Lib.hid (And.intro htd6 (And.intro hw6 hd8.names))
                  clear hon hat6 hu6 hu6b htd6 hw6 hd8 hw8 HOF HT
                  go_wp2_with fail
                  refine HON.out.mono ?_
                  rintro e wd7 ⟨rfl, L7, t10, hat7, hbl7, hon7, hu7⟩
                  obtain ⟨hsf, hlv8, ht8, hpre7, hst7, hal7, hln7, hrow7⟩ := HS8.out
                  obtain ⟨htd6, hw6, hnm8⟩ := HT6.out
                  obtain ⟨d1, d2, d3, d4⟩ := onAt_sure hlv8.down hsf hon7
                  have htd7 : Td w2 wd7 b mb L7 t10 := htd6.tape hat7 hu7 (fun k hk => .inl (by rw [hbl7] at hk; exact hk)) (by intro y hy; rw [d3] at hy; exact hnm8 y hy)
                  have hw7 := hw6.upd (X' := TpF b mb L7) hu7 (fun k hk => .inl (.inr hk)) (fun k hk => by
                    rcases hk with h | h | h
                    · exact .inl (.inr (.inl h))
                    · exact .inl (.inr (.inr (.inl h)))
                    · exact .inl (.inr (.inr (.inr (by rw [← hbl7]; exact h)))))
                  have hop := StOpen_any (pre := partB) (size := sz) H1.out.1 htd7 (by decide) ⟨hsi.1, by omega⟩
                  have ep : bs partB = ⟨#[112, 97, 114, 116]⟩ := rfl
                  rw [hpre7] at ht8
                  rw [openS_full d1 (by rw [d3]; exact ht8) hrow7, ep] at hop
                  have HOP := Lib.hid hop
                  have H7 := Lib.hid hw7
                  have hsz := HSZ.out
                  unfold sizeS at hsz
                  clear hat7 hbl7 hon7 hu7 htd7 hop ep d1 d2 d3 d4 hsf hlv8 ht8 hpre7 hst7 hal7 hln7 hrow7 htd6 hw6 hnm8 hw7 HON HT6
                  go_wp2_with fail
                  refine HOP.out.mono ?_
                  rintro e wd8 ⟨L9, hu9, hL9, -, ub, SU, rfl, hsu, hSU⟩
                  simp only at hsu
                  obtain ⟨-, -, -, -, hst7, hal7, hln7, hrow7⟩ := HS8.out
                  have hw9 := H7.out.upd (X' := SdF SU b mb L9) hu9 (fun k hk => .inl hk) (fun k hk => hk.elim (fun e => .inr (hSU k e)) (fun e => TpF.new hL9 k e))
                  have hq9 : DqR w2 ub b mb (fun V => V.cell? ⟨bb, bo + k, none⟩ = some (.int .i64 ob)) (.slice wa l.length wcp) l ⟨partB, sz, x7.segs, t10.life, false⟩ t10 wd8 := ⟨L9, SU, hsu, hw9⟩
                  obtain ⟨y, hy⟩ : ∃ y : St, (⟨partB, sz, x7.segs, t10.life, false⟩ : St) = y := ⟨_, rfl⟩
                  have hys : y.segs = x7.segs := by rw [← hy]
                  rw [hy] at hq9
                  obtain ⟨Q9, hQ9⟩ : ∃ Q9 : World → Prop, DqR w2 ub b mb (fun V => V.cell? ⟨bb, bo + k, none⟩ = some (.int .i64 ob)) (.slice wa l.length wcp) l y t10 = Q9 := ⟨_, rfl⟩
                  have hSt : ∀ W, Q9 W → Calls Tryz.prog 54 #[.pointer (some ⟨ub, 0, none⟩)] W fun e w' => e = .returned (.int .i64 ob) ∧ w' = W := fun W hW => by rw [← hQ9] at hW; have h := hW.start; rw [hys, hst7] at h; exact h
                  have hAl : ∀ W, Q9 W → Calls Tryz.prog 39 #[.pointer (some ⟨ub, 0, none⟩)] W fun e w' => (∃ va vc, e = .returned (.slice va l.length vc) ∧ BsRd w' (.slice va l.length vc) l) ∧ Q9 w' := fun W hW => by rw [← hQ9] at hW ⊢; have h := hW.all (by rw [hys]; exact hrow7) (by rw [hys]; exact hln7) (by rw [hys, hal7]; omega); rw [hys, hal7] at h; exact h
                  have hBa : ∀ W v, Q9 W → BsRd W v l → Calls Tryz.prog 41 #[v, .slice wa l.length wcp] W fun e w' => e = .returned (.bool true) ∧ Q9 w' := fun W v hW hv => by rw [← hQ9] at hW ⊢; exact hW.same hv
                  have hP9 : ∀ W, Q9 W → W.cell? ⟨bb, bo + k, none⟩ = some (.int .i64 ob) := fun W hW => by rw [← hQ9] at hW; exact hW.p
                  have hdr9 : ∀ W, Q9 W → Q9 W.drew := fun W hW => by rw [← hQ9] at hW ⊢; exact hW.drew
                  have hbs9 : ∀ W, Q9 W → Below w.heap.size w W := fun W hW => by rw [← hQ9] at hW; exact H1.out.2.2.trans (hW.base.mono H1.out.2.2.size)
                  rw [hQ9] at hq9
                  have hq9d := hdr9 _ hq9
                  have hcell9 := hP9 _ hq9d
                  have hcell0 := hP9 _ hq9
                  have HTt := Lib.hid hSt
                  have HAl := Lib.hid hAl
                  have HBa := Lib.hid hBa
                  have HBS := Lib.hid hbs9
                  clear hw9 hy hys hQ9 hSt hAl hBa hP9 hdr9 hbs9 hsz hu9 hL9 hsu hSU hst7 hal7 hln7 hrow7 HS8 H7 HOP HSZ
                  go_upto_region 29 with fail
                  go_region_with (first
                      | (go_at_call 54; with_reducible refine (HTt.out _ hq9d).mono ?_; rintro _ wb3 ⟨rfl, hwb3⟩; subst hwb3)
                      | (go_at_call 39; with_reducible refine (HAl.out _ hq9d).mono ?_; rintro _ wb5 ⟨⟨va5, vc5, rfl, hv5⟩, hqb5⟩)
                      | (go_at_call 41; with_reducible refine (HBa.out _ _ hqb5 hv5).mono ?_; rintro _ wb6 ⟨rfl, hqb6⟩))
                  all_goals
                    have HB := Lib.hid (HBS.out _ hqb6)
                    clear hqb6
                    go_wp2_with fail
                    go_ret
                    exact ⟨rfl, HB.out⟩
end Go.Proofs.YtcpaaleogmiamaaGreatDoor
