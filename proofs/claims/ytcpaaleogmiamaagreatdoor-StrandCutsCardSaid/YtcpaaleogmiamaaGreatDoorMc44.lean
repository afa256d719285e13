/- The walk of heliographlaw07.StrandCuts. -/
import Derived.Test.YtcpaaleogmiamaaGreatDoorMc36
import Derived.Test.YtcpaaleogmiamaaGreatDoorMc43
import Derived.Test.YtcpaaleogmiamaaGreatDoorMc42
namespace Go.Proofs.YtcpaaleogmiamaaGreatDoor
open Go.RowKit

theorem u64_small {n : Nat} (h : n ≤ 60) : IntKind.u64.wrap (n : Int) = (n : Int) := IntWalk.u64_in _ (by omega)
/-- A guarded operation whose guard holds. -/
theorem wpList_ungd {P : Program} {ops : Array Oper} {Q : Exit → Act → World → Prop} {a : Act} {w : World} {rest : List Oper} {o : Oper}
    (hw : Region.wanted o (yielded ops a.tmps) = true) (h : wpList P ops Q ({ o with guard := none } :: rest) a w) : wpList P ops Q (o :: rest) a w := by
  unfold wpList at h ⊢
  rw [if_pos hw]
  rw [if_pos (by simp [Region.wanted])] at h
  exact h
theorem batK_good {off : Int} (h : 0 ≤ off ∧ off + 1 ≤ 1099511627776) : goodB (batK off 1) = true := by
  refine (goodB_iff _).2 ⟨⟨h.1, by simp only [batK]; omega⟩, by simp [batK], by simp [batK], by simp [batK], by simp [batK], h.2, by simp [batK, recsK], ?_⟩
  simp only [batK, recsK, List.range_succ, List.range_zero, List.nil_append, List.map_cons, List.map_nil, recK, goodRecs, Bool.and_eq_true, decide_eq_true_eq]
  refine ⟨rfl, by omega, by omega, trivial⟩

/-- What stands when i acts are played. -/
def CsR (w2 : World) (sb b mb : Nat) (sz : Int) (i : Nat) (W : World) : Prop :=
  ∃ (L : TpL) (S : Nat → Prop) (x : St) (t : Tp), Sd w2 W S sb b mb L x t ∧ Full t x ∧ x.pre = partB ∧ x.size = sz ∧ t.room = 1048576 ∧ x.segs.length ≤ (allB x.segs).length ∧ (allB x.segs).length ≤ i

set_option maxRecDepth 100000 in
set_option maxHeartbeats 8000000 in
theorem StCuts_any {w : World} (hE : Env w) (seg dn : Int) {v : Value} {A : List SAct} (h : SActsRd w v A) : Calls Tryz.prog 10 #[.int .i64 seg, v, .int .i64 dn] w fun e w' => e = .returned (.bool true) ∧ Below w.heap.size w w' := by
  obtain ⟨a, c, rfl, hml⟩ := h.shape
  have hal : (A.length : Int) ≤ 9223372036854775807 := by unfold maxLen at hml; omega
  have H0 := Lib.hid (And.intro hE h)
  have haw := L7awake_any hE
  have HAW := Lib.hid haw
  clear hE h haw hml
  go_enter Tryz.func10, Tryz.ntmps10
  go_wp2_with fail
  refine HAW.out.mono ?_
  rintro e w1 ⟨rfl, hb1⟩
  have hgr := L7great_any (H0.out.2.below hb1)
  have HGR := Lib.hid hgr
  have H1 := Lib.hid (And.intro (H0.out.1.below hb1) (And.intro (H0.out.2.below hb1) hb1))
  clear hgr hb1 HAW H0
  go_wp2_with fail
  refine HGR.out.mono ?_
  rintro e w2 ⟨⟨g, rfl, hsm⟩, hw2⟩
  subst hw2
  have HSM := Lib.hid hsm
  clear hsm HGR
  cases g with
  | true =>
    go_wp2_with fail
    go_ret
    exact ⟨rfl, H1.out.2.2⟩
  | false =>
    have hop := L7opened_any H1.out.1 seg
    have hsi := sizeS_in seg
    obtain ⟨sz, hsz⟩ : ∃ sz, sizeS seg = sz := ⟨_, rfl⟩
    rw [hsz] at hop hsi
    have HOP := Lib.hid hop
    have HSZ := Lib.hid hsz
    clear hop hsz
    go_wp2_with fail
    refine HOP.out.mono ?_
    rintro e w3 ⟨b, mb, sb, L, S, rfl, hsd⟩
    have hsm : ∀ i (hi : i < A.length), i < 60 → A[i].b.recs.length ≤ 20 := fun i hi h => (HSM.out trivial i hi h).1
    have hst : CsR w2 sb b mb sz 0 w3 := ⟨L, S, _, _, hsd, ⟨⟨rfl, rfl, rfl, rfl, List.Perm.refl _, Row.none⟩, Tied.nil _⟩, rfl, rfl, rfl, Nat.le_refl _, Nat.le_refl _⟩
    have HST := Lib.hid hst
    have HS20 := Lib.hid hsm
    clear hst hsd hsm HOP HSM
    go_wp2_with fail
    go_loopg [9] A.length (fun gk v9 wr => ∃ i : Nat, i ≤ A.length ∧ i ≤ 60 ∧ gk = A.length - i ∧ v9 = .int .i64 i ∧ CsR w2 sb b mb sz i wr)
    case atStart => exact ⟨0, Nat.zero_le _, Nat.zero_le _, rfl, rfl, HST.out⟩
    case round =>
      obtain ⟨i, hi, hi60, rfl, rfl, hro⟩ := hrel
      by_cases hgo : i < A.length ∧ i < 60
      · obtain ⟨hit, hi6⟩ := hgo
        obtain ⟨L5, S5, x5, t5, hd5, hfl, hpre, hsz5, hrm, hsl5, hal5⟩ := hro
        have hacts := H1.out.2.1.below hd5.base
        obtain ⟨ab, ao, ra, rc, la, lc, fa, fc, rfl, q0, q1, q2, q3, q4, q5, q6, q7, q8, q9, q10, q11, hrr, -, -⟩ := hacts.at i hit
        obtain ⟨x, hx⟩ : ∃ x, A[i] = x := ⟨_, rfl⟩
        have h20 : x.b.recs.length ≤ 20 := by rw [← hx]; exact HS20.out i hit hi6
        rw [hx] at q0 q1 q2 q3 q4 q5 q6 q7 q8 q9 q10 q11 hrr
        have j1 : (i : Int) < (A.length : Int) := by omega
        have j2 : (0 : Int) ≤ (i : Int) := by omega
        have j3 : (i : Int) < 60 := by omega
        have H5 := Lib.hid (And.intro hd5 (And.intro hfl (And.intro hpre (And.intro hsz5 (And.intro hrm (And.intro hsl5 hal5))))))
        have HRR := Lib.hid hrr
        clear hacts hd5 hfl hpre hsz5 hrm hsl5 hal5 hrr hx
        go_upto_region 13 with fail
        obtain ⟨nb, hnb⟩ : ∃ nb, wr.heap.size = nb := ⟨_, rfl⟩
        obtain ⟨wx, hwx⟩ : ∃ wx, wx = wr.alloc (.cells #[.int .i64 x.kind, .int .i64 x.b.base, .int .i64 x.b.count, .int .i64 x.b.prod, .int .i64 x.b.seq, .int .i64 x.b.time, .slice ra x.b.recs.length rc, .bool true, .int .i64 x.n, .slice la x.less.length lc, .slice fa x.fates.length fc, .string x.name] 78) := ⟨_, rfl⟩
        have hbx : Below wr.heap.size wr wx := by rw [hwx]; exact below_alloc _ _
        have hbc : wx.heap[nb]? = some (.cells #[.int .i64 x.kind, .int .i64 x.b.base, .int .i64 x.b.count, .int .i64 x.b.prod, .int .i64 x.b.seq, .int .i64 x.b.time, .slice ra x.b.recs.length rc, .bool true, .int .i64 x.n, .slice la x.less.length lc, .slice fa x.fates.length fc, .string x.name] 78 (0, 0)) := by rw [hwx, ← hnb]; exact heap_alloc_new _ _
        rw [← hwx, hnb]
        have hen : ∀ W, Below wx.heap.size wx W → Calls Tryz.prog 32 #[.pointer (some ⟨sb, 0, none⟩)] W fun e w' => e = .returned (.int .i64 (endS x5.segs)) ∧ Below wx.heap.size wx w' ∧ Below W.heap.size W w' := fun W hW => (StEnd_any ((H5.out.1.below hbx).below hW).st H5.out.1.ok).mono (fun e w' h => ⟨h.1, below_trans hW h.2, h.2⟩)
        obtain ⟨ev, hev⟩ : ∃ ev, endS x5.segs = ev := ⟨_, rfl⟩
        rw [hev] at hen
        have hnx : ∀ W, Below wx.heap.size wx W → Calls Tryz.prog 31 #[x.v (.slice ra x.b.recs.length rc) (.slice la x.less.length lc) (.slice fa x.fates.length fc) true, .int .i64 ev] W fun en w' => ∃ (va : Option Addr) (vc : Nat), en = .returned (.agg #[.int .i64 ev, .int .i64 x.b.count, .int .i64 x.b.prod, .int .i64 x.b.seq, .int .i64 x.b.time, .slice va x.b.recs.length vc]) ∧ w'.ownsRow wx.heap.size 84 4 (.slice va x.b.recs.length vc) x.b.recs.length (recCells (nextB x.b ev).recs) ∧ Below wx.heap.size wx w' ∧ Below W.heap.size W w' := by
          intro W hW
          refine (L7next_any (HRR.out.below (hbx.trans (hW.mono hbx.size))) h20 ev).mono ?_
          rintro en w' ⟨v, rfl, hv, hb⟩
          obtain ⟨va, vc, rfl, -⟩ := (Sl.of_owns hv).shape
          exact ⟨va, vc, rfl, owns_mono hv hW.size, below_trans hW hb, hb⟩
        simp only [SAct.v] at hnx
        have hk12 : ∀ W, Below wx.heap.size wx W → W.cell? ⟨nb, 0, none⟩ = some (.int .i64 x.kind) ∧ W.cell? ⟨nb, 1, none⟩ = some (.int .i64 x.b.base) ∧ W.cell? ⟨nb, 2, none⟩ = some (.int .i64 x.b.count) ∧ W.cell? ⟨nb, 3, none⟩ = some (.int .i64 x.b.prod) ∧ W.cell? ⟨nb, 4, none⟩ = some (.int .i64 x.b.seq) ∧ W.cell? ⟨nb, 5, none⟩ = some (.int .i64 x.b.time) ∧ W.cell? ⟨nb, 6, none⟩ = some (.slice ra x.b.recs.length rc) ∧
            W.cell? ⟨nb, 7, none⟩ = some (.bool true) ∧ W.cell? ⟨nb, 8, none⟩ = some (.int .i64 x.n) ∧ W.cell? ⟨nb, 9, none⟩ = some (.slice la x.less.length lc) ∧ W.cell? ⟨nb, 10, none⟩ = some (.slice fa x.fates.length fc) ∧ W.cell? ⟨nb, 11, none⟩ = some (.string x.name) := fun W hW => by
          have h := heap_below hW hbc
          exact ⟨cells_of h 0 _ rfl, cells_of h 1 _ rfl, cells_of h 2 _ rfl, cells_of h 3 _ rfl, cells_of h 4 _ rfl, cells_of h 5 _ rfl, cells_of h 6 _ rfl, cells_of h 7 _ rfl, cells_of h 8 _ rfl, cells_of h 9 _ rfl, cells_of h 10 _ rfl, cells_of h 11 _ rfl⟩
        have HEN := Lib.hid hen
        have HNX := Lib.hid hnx
        have HK := Lib.hid hk12
        have hap : ∀ W (va : Option Addr) (vc : Nat), Below wx.heap.size wx W → W.ownsRow wx.heap.size 84 4 (.slice va x.b.recs.length vc) x.b.recs.length (recCells (nextB x.b ev).recs) → Calls Tryz.prog 33 #[.pointer (some ⟨sb, 0, none⟩), .agg #[.int .i64 ev, .int .i64 x.b.count, .int .i64 x.b.prod, .int .i64 x.b.seq, .int .i64 x.b.time, .slice va x.b.recs.length vc]] W fun e w' => (∃ c : Int, e = .returned (.int .i64 c)) ∧ CsR w2 sb b mb sz (i + 1) w' := by
          intro W va vc hW ho
          obtain ⟨hd5, hfl, hpre, hsz5, hrm, hsl5, hal5⟩ := H5.out
          have hdc := (hd5.below hbx).below hW
          obtain ⟨q1, q2, q3, q4⟩ := appS_live (nextB x.b ev) hfl.live (by rw [hsz5]; exact hsi.1)
          have hff := appS_full (nextB x.b ev) hfl (by rw [hsz5]; exact hsi.1)
          obtain ⟨-, hl1, hl2⟩ := appS_lin (t := t5) hfl.live.row.chain (nextB x.b ev)
          have hapn0 := appS_segs (t := t5) (x := x5) (nextB x.b ev)
          have hal6 : (appS t5 x5 (nextB x.b ev)).2.1.segs.length ≤ (allB (appS t5 x5 (nextB x.b ev)).2.1.segs).length ∧ (allB (appS t5 x5 (nextB x.b ev)).2.1.segs).length ≤ i + 1 := by
            by_cases h0 : (appS t5 x5 (nextB x.b ev)).2.2 = 0
            · rw [(hl1 h0).1, List.length_append]; simp; omega
            · rw [hl2 h0]; omega
          have hapn := appS_segs (t := t5) (x := x5) (nextB x.b ev)
          have hap := StAppend_any H1.out.1 hdc (B := nextB x.b ev) (rcs_of_owns ho (by simp [nextB])) (by omega)
          simp only [Batch.v] at hap
          refine Calls.mono hap ?_
          rintro e w' ⟨S6, L6, rfl, hd6, -, -, -⟩
          exact ⟨⟨_, rfl⟩, L6, S6, _, _, hd6, hff, q3.trans hpre, q4.trans hsz5, q2.room.trans hrm, hal6.1, hal6.2⟩
        have HAP := Lib.hid hap
        obtain ⟨k0, k1, k2, k3, k4, k5, k6, k7, k8, k9, k10, k11⟩ := HK.out wx (Below.refl _ _)
        have hdB : Below wx.heap.size wx wx.drew := (Below.refl _ _).drew
        clear hwx hnb hbx hbc hen hnx hk12 hap hev HRR q0 q1 q2 q3 q4 q5 q6 q7 q8 q9 q10 q11
        go_region_with (first
            | (go_at_call 32; with_reducible refine (HEN.out _ hdB).mono ?_; rintro _ w6 ⟨rfl, h6, hl6⟩; obtain ⟨k0, k1, k2, k3, k4, k5, k6, k7, k8, k9, k10, k11⟩ := HK.out w6 h6)
            | (go_at_call 31; have hg := h6; refine (HNX.out _ ?_).mono ?_; with_reducible exact h6; rintro _ w7 ⟨va, vc, rfl, ho7, h7, hl7⟩)
            | (go_at_call 33; have hg := h7; refine (HAP.out _ va vc ?_ ?_).mono ?_; with_reducible exact h7; exact ho7; rintro _ w8 ⟨⟨cc, rfl⟩, hr8⟩))
        all_goals
          have HC := Lib.hid hr8
          clear hr8 k0 k1 k2 k3 k4 k5 k6 k7 k8 k9 k10 k11 h6 hl6 h7 hl7 ho7 HK HEN HNX HAP H5
          go_wp2_with fail
          go_roundg (A.length - (i + 1))
          case measure => omega
          case rel => exact ⟨i + 1, by omega, by omega, rfl, by go_num, HC.out⟩
      · have H5 := Lib.hid hro
        clear hro
        go_upto_region 9 with fail
        go_cut [35] from 28 to 34 (fun v35 wc => v35 = .bool false ∧ wc = wr)
        case first =>
          by_cases hit : i < A.length
          · have j1 : (i : Int) < (A.length : Int) := by omega
            have j2 : ¬ (i : Int) < 60 := by omega
            go_wp2_with fail
            go_meet
            exact ⟨rfl, rfl⟩
          · have j1 : ¬ (i : Int) < (A.length : Int) := by omega
            go_wp2_with fail
            go_meet
            exact ⟨rfl, rfl⟩
        case rest =>
          obtain ⟨rfl, hwc⟩ := hcut
          subst hwc
          obtain ⟨L5, S5, x5, t5, hd5, hfl, hpre, hsz5, hrm, hsl5, hal5⟩ := H5.out
          obtain ⟨l, hl⟩ : ∃ l, allB x5.segs = l := ⟨_, rfl⟩
          have hall := hd5.allHd hfl.live.row (by omega) (by omega)
          rw [hl] at hall hsl5 hal5
          have HALL := Lib.hid hall
          have H5x := Lib.hid (And.intro hfl (And.intro hpre (And.intro hsz5 (And.intro hrm (And.intro hsl5 hl)))))
          obtain ⟨ln, hln⟩ : ∃ ln, l.length = ln := ⟨_, rfl⟩
          have hln60 : ln ≤ 60 := by omega
          have HLN := Lib.hid hln
          rw [hln] at HALL
          clear hd5 hfl hpre hsz5 hrm hsl5 hal5 hall H5 hl hln
          go_wp2_with fail
          refine HALL.out.mono ?_
          rintro e w4 ⟨wa, wcp, lo, hi, rfl, hq⟩
          by_cases h0 : ln = 0
          · obtain ⟨hfl, hpre, hsz5, hrm, hsl5, hl⟩ := H5x.out
            have hs0 : x5.segs = [] := List.length_eq_zero_iff.1 (by have := HLN.out; omega)
            have e0 : cutS t5 x5 0 = (t5, x5, 0) := by
              rw [cutS, hfl.live.ready, if_neg (by decide), hs0, if_neg (by simp [startS, endS, acrossB, batF, allB]), if_pos (by simp)]
            have e1 : cutS t5 x5 1 = (t5, x5, 1) := by
              rw [cutS, hfl.live.ready, if_neg (by decide), hs0, if_pos (by simp [startS, endS, acrossB, batF, allB])]
            have hc0 : ∀ W, HdR w2 sb b mb lo hi (fun V => BsRd V (.slice wa ln wcp) l) x5 t5 W → Calls Tryz.prog 57 #[.pointer (some ⟨sb, 0, none⟩), .int .i64 0] W fun e w' => e = .returned (.int .i64 0) ∧ HdR w2 sb b mb lo hi (fun V => BsRd V (.slice wa ln wcp) l) x5 t5 w' := fun W hW => by
              have h := hW.act (r := (t5, x5, 0)) (fun S L h => by have := StCut_any H1.out.1 h 0 (by rw [hs0]; simp) (by rw [hs0]; simp); rw [e0] at this; exact this)
              exact h
            have hc1 : ∀ W, HdR w2 sb b mb lo hi (fun V => BsRd V (.slice wa ln wcp) l) x5 t5 W → Calls Tryz.prog 57 #[.pointer (some ⟨sb, 0, none⟩), .int .i64 1] W fun e w' => e = .returned (.int .i64 1) ∧ HdR w2 sb b mb lo hi (fun V => BsRd V (.slice wa ln wcp) l) x5 t5 w' := fun W hW => by
              have h := hW.act (r := (t5, x5, 1)) (fun S L h => by have := StCut_any H1.out.1 h 1 (by rw [hs0]; simp) (by rw [hs0]; simp); rw [e1] at this; exact this)
              exact h
            have HC0 := Lib.hid hc0
            have HC1 := Lib.hid hc1
            have HQ := Lib.hid hq
            subst h0
            clear hfl hpre hsz5 hrm hsl5 hl hs0 e0 e1 hc0 hc1 hq H5x HLN HALL
            go_wp2_with fail
            refine (HC0.out _ HQ.out).mono ?_
            rintro e w5 ⟨rfl, hq5⟩
            have HQ5 := Lib.hid hq5
            clear hq5
            go_wp2_with fail
            refine (HC1.out _ HQ5.out).mono ?_
            rintro e w6 ⟨rfl, hq6⟩
            have HB := Lib.hid (H1.out.2.2.trans (hq6.base.mono H1.out.2.2.size))
            clear hq6
            go_wp2_with fail
            go_ret
            exact ⟨rfl, HB.out⟩
          · obtain ⟨k, hk, hkl⟩ := u64_mod7 dn (ln : Int) (by omega)
            have HK := Lib.hid hk
            clear hk
            have hkn : k < ln := by omega
            have hu2 : wrap64 (k : Int) = (k : Int) := IntWalk.wrap64_in _ (by omega)
            have hu3 : ¬ (ln : Int) = 0 := by omega
            have hu4 : ((ln : Int) == 0) = false := by simpa using h0
            have hkx : k < l.length := by rw [HLN.out]; exact hkn
            obtain ⟨off, hoff⟩ : ∃ off, l[k].base = off := ⟨_, rfl⟩
            obtain ⟨cn, hcn⟩ : ∃ cn, l[k].count = cn := ⟨_, rfl⟩
            obtain ⟨bb, bo, rfl⟩ : ∃ bb bo, wa = some ⟨bb, bo, none⟩ := by
              obtain ⟨a', c', e, -, -, hc⟩ := (hq.p).cells
              rw [HLN.out] at e
              simp only [Value.slice.injEq, true_and] at e
              obtain ⟨bb, bo, -, -, e2, -⟩ := hc k hkx
              exact ⟨bb, bo, e.1.trans e2⟩
            have hwc : ln ≤ wcp := by
              obtain ⟨a', c', e, hle, -, -⟩ := (hq.p).cells
              rw [HLN.out] at e hle
              simp only [Value.slice.injEq, true_and] at e
              omega
            have HWC := Lib.hid hwc
            clear hwc
            have hP : ∀ V, BsRd V (.slice (some ⟨bb, bo, none⟩) ln wcp) l → V.cell? ⟨bb, bo + k * 6, none⟩ = some (.int .i64 off) ∧ V.cell? ⟨bb, bo + k * 6 + 1, none⟩ = some (.int .i64 cn) := by
              intro V hV
              obtain ⟨a', c', e, -, -, hc⟩ := hV.cells
              simp only [Value.slice.injEq] at e
              obtain ⟨bb', bo', -, -, e2, -, q0, q1, -⟩ := hc k hkx
              have e3 := e.1.trans e2
              simp only [Option.some.injEq, Addr.mk.injEq, and_true] at e3
              obtain ⟨rfl, rfl⟩ := e3
              rw [hoff] at q0
              rw [hcn] at q1
              exact ⟨q0, q1⟩
            obtain ⟨hfl, hpre, hsz5, hrm, hsl5, hl⟩ := H5x.out
            have hlen0 : l.length = ln := HLN.out
            obtain ⟨n0, hn0, hch0⟩ := hfl.live.row.chain
            have hgd : goodB l[k] = true := hch0.chained.good _ (by rw [hl]; exact List.getElem_mem _)
            have G := (goodB_iff _).1 hgd
            have g1 := G.base
            have g2 := G.count
            have g3 := G.fin
            rw [hoff] at g1 g3
            rw [hcn] at g2 g3
            clear G
            have hkx5 : k < (allB x5.segs).length := by rw [hl]; exact hkx
            have eb : (allB x5.segs)[k]'hkx5 = l[k] := by congr 1
            obtain ⟨t7, x7, hc7, hcalm7, hf7, hal7, hen7, hpre7, hsz7, hln7, hne7⟩ := cutS_full hfl k hkx5
            have hac := fun h => cutS_across hfl k hkx5 h
            rw [eb, hoff] at hc7 hen7
            rw [eb, hoff, hcn] at hac
            rw [hl] at hal7
            have hrow7 := hf7.live.row
            have htl : (l.take k).length = k := by rw [List.length_take]; omega
            have hbk := batK_good (off := off) ⟨g1.1, by omega⟩
            have hc8 : (appS t7 x7 (batK off 1)).2.2 = 0 := appS_ok hf7 (by rw [hpre7, hpre]; decide) hbk (by rw [hen7]; rfl) (by rw [hal7, htl, hcalm7.room, hrm]; omega) (by omega)
            have hf8 := appS_full (batK off 1) hf7 (by rw [hsz7, hsz5]; exact hsi.1)
            obtain ⟨-, v2, v3, v4⟩ := appS_live (batK off 1) hf7.live (by rw [hsz7, hsz5]; exact hsi.1)
            obtain ⟨-, ha8, -⟩ := appS_lin (t := t7) hf7.live.row.chain (batK off 1)
            have ha8 := (ha8 hc8).1
            have hs8 := appS_segs (t := t7) (x := x7) (batK off 1)
            obtain ⟨r8, hr8⟩ : ∃ r8, appS t7 x7 (batK off 1) = r8 := ⟨_, rfl⟩
            rw [hr8] at hc8 hf8 v2 v3 v4 ha8 hs8
            obtain ⟨t8, x8, c8⟩ := r8
            simp only at hc8 hf8 v2 v3 v4 ha8 hs8
            subst hc8
            obtain ⟨t9, hs9, hcalm9, hn9, ht9, hu9⟩ := syncS_full hf8
            have hlv9 : Live t9 x8 := hf8.live.calm hcalm9 hn9
            have hsf9 := sure_files hlv9 hu9
            have hpre8 : x8.pre = partB := (v3.trans hpre7).trans hpre
            have hal8 : allB x8.segs = l.take k ++ [batK off 1] := by rw [ha8, hal7]
            have hsl8 : x8.segs.length ≤ 61 := by omega
            have hP0 := hq
            obtain ⟨P, hPe⟩ : ∃ P : World → Prop, (fun V => BsRd V (.slice (some ⟨bb, bo, none⟩) ln wcp) l) = P := ⟨_, rfl⟩
            have hPP : ∀ V, P V → BsRd V (.slice (some ⟨bb, bo, none⟩) ln wcp) l := fun V h => by rw [← hPe] at h; exact h
            rw [hPe] at hq
            have hll5 : ∀ g ∈ x5.segs, g.list.length ≤ 1000 := fun g hg => by have h1 := mem_allB hg; rw [hl] at h1; omega
            have hC1 : 1 < cn → ∀ W, HdR w2 sb b mb lo hi P x5 t5 W → Calls Tryz.prog 57 #[.pointer (some ⟨sb, 0, none⟩), .int .i64 (off + 1)] W fun e w' => e = .returned (.int .i64 1) ∧ HdR w2 sb b mb lo hi P x5 t5 w' := fun hc W hW => by
              have h := hW.act (r := (t5, x5, 1)) (fun S L h => by have := StCut_any H1.out.1 h (off + 1) (by omega) hll5; rw [hac hc] at this; exact this)
              exact h
            have hC2 : ∀ W, HdR w2 sb b mb lo hi P x5 t5 W → Calls Tryz.prog 57 #[.pointer (some ⟨sb, 0, none⟩), .int .i64 off] W fun e w' => e = .returned (.int .i64 0) ∧ HdR w2 sb b mb lo hi P x7 t7 w' := fun W hW => by
              have h := hW.act (r := (t7, x7, 0)) (fun S L h => by have := StCut_any H1.out.1 h off (by omega) hll5; rw [hc7] at this; exact this)
              exact h
            have hEn : ∀ W, HdR w2 sb b mb lo hi P x7 t7 W → Calls Tryz.prog 32 #[.pointer (some ⟨sb, 0, none⟩)] W fun e w' => e = .returned (.int .i64 off) ∧ HdR w2 sb b mb lo hi P x7 t7 w' := fun W hW => by have h := hW.end; rw [hen7] at h; exact h
            have hAl : ∀ W, HdR w2 sb b mb lo hi P x7 t7 W → Calls Tryz.prog 39 #[.pointer (some ⟨sb, 0, none⟩)] W fun e w' => (∃ va vc, e = .returned (.slice va k vc) ∧ BsRd w' (.slice va k vc) (l.take k)) ∧ HdR w2 sb b mb lo hi P x7 t7 w' := fun W hW => by
              have h := hW.all hrow7 (by omega) (by rw [hal7, htl]; omega)
              rw [hal7, htl] at h
              exact h
            have hBa : ∀ W v, HdR w2 sb b mb lo hi P x7 t7 W → BsRd W v (l.take k) → Calls Tryz.prog 41 #[v, .slice (some ⟨bb, bo, none⟩) k wcp] W fun e w' => e = .returned (.bool true) ∧ HdR w2 sb b mb lo hi P x7 t7 w' := fun W v hW hv => hW.same hv (fun V hV => (hPP V hV).take k (by omega))
            have hAp : ∀ W ra rc, HdR w2 sb b mb lo hi P x7 t7 W → RcsRd W (.slice ra 1 rc) (recsK off 1) → Calls Tryz.prog 33 #[.pointer (some ⟨sb, 0, none⟩), .agg #[.int .i64 off, .int .i64 1, .int .i64 0, .int .i64 0, .int .i64 0, .slice ra 1 rc]] W fun e w' => e = .returned (.int .i64 0) ∧ HdR w2 sb b mb lo hi P x8 t8 w' := fun W ra rc hW hR => by
              have h := hW.act (r := (t8, x8, 0)) (f := 33) (args := #[.pointer (some ⟨sb, 0, none⟩), (batK off 1).v (.slice ra 1 rc)]) (fun S L h => by have := StAppend_any H1.out.1 h (B := batK off 1) hR (by omega); rw [hr8] at this; exact this)
              exact h
            have hSy : ∀ W, HdR w2 sb b mb lo hi P x8 t8 W → Calls Tryz.prog 36 #[.pointer (some ⟨sb, 0, none⟩)] W fun e w' => e = .returned (.int .i64 0) ∧ HdR w2 sb b mb lo hi P x8 t9 w' := fun W hW => by
              have h := hW.act (r := (t9, x8, 0)) (fun S L h => by have := StSync_any H1.out.1 h; rw [hs9] at this; exact this)
              exact h
            obtain ⟨Q5, hQ5⟩ : ∃ Q5 : World → Prop, HdR w2 sb b mb lo hi P x5 t5 = Q5 := ⟨_, rfl⟩
            obtain ⟨Q7, hQ7⟩ : ∃ Q7 : World → Prop, HdR w2 sb b mb lo hi P x7 t7 = Q7 := ⟨_, rfl⟩
            obtain ⟨Q8, hQ8⟩ : ∃ Q8 : World → Prop, HdR w2 sb b mb lo hi P x8 t8 = Q8 := ⟨_, rfl⟩
            have hP5 : ∀ W, Q5 W → W.cell? ⟨bb, bo + k * 6, none⟩ = some (.int .i64 off) ∧ W.cell? ⟨bb, bo + k * 6 + 1, none⟩ = some (.int .i64 cn) := fun W hW => by rw [← hQ5] at hW; exact hP W (hPP W hW.p)
            have hdr : ∀ W, Q5 W → Q5 W.drew := fun W hW => by rw [← hQ5] at hW ⊢; exact hW.drew
            have hbl7 : ∀ W W', Q7 W → Below W.heap.size W W' → Q7 W' := fun W W' hW hb => by rw [← hQ7] at hW ⊢; exact hW.below hb
            rw [hQ5] at hq hC1 hC2
            rw [hQ7] at hC2 hEn hAl hBa hAp
            rw [hQ8] at hAp hSy
            have HC1 := Lib.hid hC1
            have HC2 := Lib.hid hC2
            have HEn := Lib.hid hEn
            have HAl := Lib.hid hAl
            have HBa := Lib.hid hBa
            have HAp := Lib.hid hAp
            have HSy := Lib.hid hSy
            have HP5 := Lib.hid hP5
            have HDR := Lib.hid hdr
            have HB7 := Lib.hid hbl7
            have HQ := Lib.hid hq
            have H9 := Lib.hid (And.intro hsf9 (And.intro hlv9 (And.intro ht9 (And.intro hpre8 (And.intro hal8 (And.intro hsl8 (And.intro hf8.live.row (And.intro hPP htl))))))))
            clear hC1 hC2 hEn hAl hBa hAp hSy hP5 hdr hbl7 hq hsf9 hlv9 ht9 hpre8 hal8 hsl8 hPP hQ5 hQ7 hQ8 hP hP0 hPe hs9 hcalm9 hn9 hu9 hr8 hf8 v2 v3 v4 ha8 hs8 hf7 hrow7 hal7 hen7 hc7 hcalm7 hpre7 hsz7 hln7 hne7 hac hbk htl hfl hpre hsz5 hrm hsl5 hl hgd hch0 hkx5 eb hll5 hlen0 hoff hcn hkl H5x HLN HALL hkx
            have hk := HK.out
            have hu1 : IntKind.u64.wrap (ln : Int) = (ln : Int) := u64_small hln60
            obtain ⟨cellA, cellB⟩ := HP5.out _ HQ.out
            have hk2 : (k : Int) < (ln : Int) := by omega
            have hk1 : (0 : Int) ≤ (k : Int) := by omega
            go_upto_region 19 with fail
            clear hk hu1 HK
            have hq4 := HQ.out
            have hq4d := HDR.out _ hq4
            obtain ⟨cellC, cellD⟩ := HP5.out _ hq4d
            have hb0 : ((0 : Int) != 0) = false := by decide
            have hb1 : ((1 : Int) != 1) = false := by decide
            have hb2 : (off != off) = false := by simp
            have hw1 : wrap64 (off + 1) = off + 1 := IntWalk.wrap64_in _ (by omega)
            have hw2 : IntKind.i64.wrap (off + 1) = off + 1 := IntWalk.i64_in _ (by omega)
            have hkc : (k : Int) ≤ (wcp : Int) := by have := HWC.out; omega
            go_cut [107] from 74 to 106 (fun v107 wc => v107 = .bool false ∧ Q7 wc)
            case first =>
              by_cases hc1 : 1 < cn
              · have hC1 := HC1.out hc1
                have HC1b := Lib.hid hC1
                clear hC1
                have hdc : decide (1 < cn) = true := by simpa using hc1
                refine wp_region_any (by kernel_rfl) ?_
                try (change wpAny _ _ _ _ _ _ _ (World.drew _))
                refine wpAny_take (i := 0) (v := ?vp0) rfl (by kernel_rfl) (by kernel_rfl) (by kernel_rfl) (fun _ _ _ h => h) (Or.inl ⟨by kernel_rfl, ?hp0⟩) ?_
                case hp0 => (intro w; go_simp; try with_reducible rfl)
                try simp only [Act.put, List.setIfInBounds_toArray, List.set_cons_zero, List.set_cons_succ, List.getElem_toArray, List.getElem_cons_zero, List.getElem_cons_succ]
                refine wpAny_take (i := 1) (v := ?vp1) rfl (by kernel_rfl) (by kernel_rfl) (by kernel_rfl) (fun _ _ _ h => h) (Or.inl ⟨by kernel_rfl, ?hp1⟩) ?_
                case hp1 => (intro w; go_simp; try with_reducible rfl)
                try simp only [Act.put, List.setIfInBounds_toArray, List.set_cons_zero, List.set_cons_succ, List.getElem_toArray, List.getElem_cons_zero, List.getElem_cons_succ]
                refine wpAny_take (i := 2) (v := ?vp2) rfl (by kernel_rfl) (by kernel_rfl) (by kernel_rfl) (fun _ _ _ h => h) (Or.inl ⟨by kernel_rfl, ?hp2⟩) ?_
                case hp2 => (intro w; go_simp; try with_reducible rfl)
                try simp only [Act.put, List.setIfInBounds_toArray, List.set_cons_zero, List.set_cons_succ, List.getElem_toArray, List.getElem_cons_zero, List.getElem_cons_succ]
                refine wpAny_take (i := 3) (v := ?vp3) rfl (by kernel_rfl) (by kernel_rfl) (by kernel_rfl) (fun _ _ _ h => h) (Or.inl ⟨by kernel_rfl, ?hp3⟩) ?_
                case hp3 => (intro w; go_simp; try with_reducible rfl)
                try simp only [Act.put, List.setIfInBounds_toArray, List.set_cons_zero, List.set_cons_succ, List.getElem_toArray, List.getElem_cons_zero, List.getElem_cons_succ]
                refine wpAny_ready (rs := [4]) (by kernel_rfl) (by simp) ?_
                refine AllReady.cons rfl (fun K hK => ?_) AllReady.nil
                go_simp
                refine hK _ _ ?_
                clear hK K
                try simp only [Act.put, List.setIfInBounds_toArray, List.set_cons_zero, List.set_cons_succ, List.getElem_toArray, List.getElem_cons_zero, List.getElem_cons_succ]
                refine wpAny_take (i := 5) (v := ?vp5) rfl (by kernel_rfl) (by kernel_rfl) (by kernel_rfl) (fun _ _ _ h => h) (Or.inl ⟨by kernel_rfl, ?hp5⟩) ?_
                case hp5 => (intro w; go_simp; try with_reducible rfl)
                try simp only [Act.put, List.setIfInBounds_toArray, List.set_cons_zero, List.set_cons_succ, List.getElem_toArray, List.getElem_cons_zero, List.getElem_cons_succ]
                refine wpAny_take (i := 6) (v := ?vp6) rfl (by kernel_rfl) (by kernel_rfl) (by kernel_rfl) (fun _ _ _ h => h) (Or.inl ⟨by kernel_rfl, ?hp6⟩) ?_
                case hp6 => (intro w; go_simp; try with_reducible rfl)
                try simp only [Act.put, List.setIfInBounds_toArray, List.set_cons_zero, List.set_cons_succ, List.getElem_toArray, List.getElem_cons_zero, List.getElem_cons_succ]
                refine wpAny_take (i := 7) (v := ?vp7) rfl (by kernel_rfl) (by kernel_rfl) (by kernel_rfl) (fun _ _ _ h => h) (Or.inl ⟨by kernel_rfl, ?hp7⟩) ?_
                case hp7 => (intro w; go_simp; try with_reducible rfl)
                try simp only [Act.put, List.setIfInBounds_toArray, List.set_cons_zero, List.set_cons_succ, List.getElem_toArray, List.getElem_cons_zero, List.getElem_cons_succ]
                refine wpAny_take (i := 8) (v := ?vp8) rfl (by kernel_rfl) (by kernel_rfl) (by kernel_rfl) (fun _ _ _ h => h) (Or.inl ⟨by kernel_rfl, ?hp8⟩) ?_
                case hp8 => (intro w; go_simp; try with_reducible rfl)
                try simp only [Act.put, List.setIfInBounds_toArray, List.set_cons_zero, List.set_cons_succ, List.getElem_toArray, List.getElem_cons_zero, List.getElem_cons_succ]
                refine wpAny_take (i := 9) (v := ?vp9) rfl (by kernel_rfl) (by kernel_rfl) (by kernel_rfl) (fun _ _ _ h => h) (Or.inl ⟨by kernel_rfl, ?hp9⟩) ?_
                case hp9 => (intro w; go_simp; try with_reducible rfl)
                try simp only [Act.put, List.setIfInBounds_toArray, List.set_cons_zero, List.set_cons_succ, List.getElem_toArray, List.getElem_cons_zero, List.getElem_cons_succ]
                refine wpAny_ready (rs := [10]) (by kernel_rfl) (by simp) ?_
                refine AllReady.cons rfl (fun K hK => ?_) AllReady.nil
                go_simp
                with_reducible refine (HC1b.out _ hq4d).mono ?_
                rintro _ wb1 ⟨rfl, hqb1⟩
                go_simp
                refine hK _ _ ?_
                clear hK K
                try simp only [Act.put, List.setIfInBounds_toArray, List.set_cons_zero, List.set_cons_succ, List.getElem_toArray, List.getElem_cons_zero, List.getElem_cons_succ]
                refine wpAny_take (i := 11) (v := ?vp11) rfl (by kernel_rfl) (by kernel_rfl) (by kernel_rfl) (fun _ _ _ h => h) (Or.inl ⟨by kernel_rfl, ?hp11⟩) ?_
                case hp11 => (intro w; go_simp; try with_reducible rfl)
                try simp only [Act.put, List.setIfInBounds_toArray, List.set_cons_zero, List.set_cons_succ, List.getElem_toArray, List.getElem_cons_zero, List.getElem_cons_succ]
                refine wpAny_take (i := 12) (v := ?vp12) rfl (by kernel_rfl) (by kernel_rfl) (by kernel_rfl) (fun _ _ _ h => h) (Or.inl ⟨by kernel_rfl, ?hp12⟩) ?_
                case hp12 => (intro w; go_simp; try with_reducible rfl)
                try simp only [Act.put, List.setIfInBounds_toArray, List.set_cons_zero, List.set_cons_succ, List.getElem_toArray, List.getElem_cons_zero, List.getElem_cons_succ]
                refine wpAny_take (i := 13) (v := ?vp13) rfl (by kernel_rfl) (by kernel_rfl) (by kernel_rfl) (fun _ _ _ h => h) (Or.inl ⟨by kernel_rfl, ?hp13⟩) ?_
                case hp13 => (intro w; go_simp; try with_reducible rfl)
                try simp only [Act.put, List.setIfInBounds_toArray, List.set_cons_zero, List.set_cons_succ, List.getElem_toArray, List.getElem_cons_zero, List.getElem_cons_succ]
                refine wpAny_take (i := 14) (v := ?vp14) rfl (by kernel_rfl) (by kernel_rfl) (by kernel_rfl) (fun _ _ _ h => h) (Or.inl ⟨by kernel_rfl, ?hp14⟩) ?_
                case hp14 => (intro w; go_simp; try with_reducible rfl)
                try simp only [Act.put, List.setIfInBounds_toArray, List.set_cons_zero, List.set_cons_succ, List.getElem_toArray, List.getElem_cons_zero, List.getElem_cons_succ]
                refine wpAny_take (i := 15) (v := ?vp15) rfl (by kernel_rfl) (by kernel_rfl) (by kernel_rfl) (fun _ _ _ h => h) (Or.inl ⟨by kernel_rfl, ?hp15⟩) ?_
                case hp15 => (intro w; go_simp; try with_reducible rfl)
                try simp only [Act.put, List.setIfInBounds_toArray, List.set_cons_zero, List.set_cons_succ, List.getElem_toArray, List.getElem_cons_zero, List.getElem_cons_succ]
                refine wpAny_ready (rs := [16]) (by kernel_rfl) (by simp) ?_
                refine AllReady.cons rfl (fun K hK => ?_) AllReady.nil
                go_simp
                with_reducible refine (HC2.out _ hqb1).mono ?_
                rintro _ wb2 ⟨rfl, hqb2⟩
                go_simp
                refine hK _ _ ?_
                clear hK K
                try simp only [Act.put, List.setIfInBounds_toArray, List.set_cons_zero, List.set_cons_succ, List.getElem_toArray, List.getElem_cons_zero, List.getElem_cons_succ]
                refine wpAny_take (i := 17) (v := ?vp17) rfl (by kernel_rfl) (by kernel_rfl) (by kernel_rfl) (fun _ _ _ h => h) (Or.inl ⟨by kernel_rfl, ?hp17⟩) ?_
                case hp17 => (intro w; go_simp; try with_reducible rfl)
                try simp only [Act.put, List.setIfInBounds_toArray, List.set_cons_zero, List.set_cons_succ, List.getElem_toArray, List.getElem_cons_zero, List.getElem_cons_succ]
                refine wpAny_take (i := 18) (v := ?vp18) rfl (by kernel_rfl) (by kernel_rfl) (by kernel_rfl) (fun _ _ _ h => h) (Or.inl ⟨by kernel_rfl, ?hp18⟩) ?_
                case hp18 => (intro w; go_simp; try with_reducible rfl)
                try simp only [Act.put, List.setIfInBounds_toArray, List.set_cons_zero, List.set_cons_succ, List.getElem_toArray, List.getElem_cons_zero, List.getElem_cons_succ]
                refine wpAny_take (i := 19) (v := ?vp19) rfl (by kernel_rfl) (by kernel_rfl) (by kernel_rfl) (fun _ _ _ h => h) (Or.inl ⟨by kernel_rfl, ?hp19⟩) ?_
                case hp19 => (intro w; go_simp; try with_reducible rfl)
                try simp only [Act.put, List.setIfInBounds_toArray, List.set_cons_zero, List.set_cons_succ, List.getElem_toArray, List.getElem_cons_zero, List.getElem_cons_succ]
                refine wpAny_take (i := 20) (v := ?vp20) rfl (by kernel_rfl) (by kernel_rfl) (by kernel_rfl) (fun _ _ _ h => h) (Or.inl ⟨by kernel_rfl, ?hp20⟩) ?_
                case hp20 => (intro w; go_simp; try with_reducible rfl)
                try simp only [Act.put, List.setIfInBounds_toArray, List.set_cons_zero, List.set_cons_succ, List.getElem_toArray, List.getElem_cons_zero, List.getElem_cons_succ]
                refine wpAny_take (i := 22) (v := ?vp22) rfl (by kernel_rfl) (by kernel_rfl) (by kernel_rfl) (fun _ _ _ h => h) (Or.inl ⟨by kernel_rfl, ?hp22⟩) ?_
                case hp22 => (intro w; go_simp; try with_reducible rfl)
                try simp only [Act.put, List.setIfInBounds_toArray, List.set_cons_zero, List.set_cons_succ, List.getElem_toArray, List.getElem_cons_zero, List.getElem_cons_succ]
                refine wpAny_ready (rs := [21]) (by kernel_rfl) (by simp) ?_
                refine AllReady.cons rfl (fun K hK => ?_) AllReady.nil
                go_simp
                with_reducible refine (HEn.out _ hqb2).mono ?_
                rintro _ wb3 ⟨rfl, hqb3⟩
                go_simp
                refine hK _ _ ?_
                clear hK K
                try simp only [Act.put, List.setIfInBounds_toArray, List.set_cons_zero, List.set_cons_succ, List.getElem_toArray, List.getElem_cons_zero, List.getElem_cons_succ]
                refine wpAny_take (i := 23) (v := ?vp23) rfl (by kernel_rfl) (by kernel_rfl) (by kernel_rfl) (fun _ _ _ h => h) (Or.inl ⟨by kernel_rfl, ?hp23⟩) ?_
                case hp23 => (intro w; go_simp; try with_reducible rfl)
                try simp only [Act.put, List.setIfInBounds_toArray, List.set_cons_zero, List.set_cons_succ, List.getElem_toArray, List.getElem_cons_zero, List.getElem_cons_succ]
                refine wpAny_take (i := 24) (v := ?vp24) rfl (by kernel_rfl) (by kernel_rfl) (by kernel_rfl) (fun _ _ _ h => h) (Or.inl ⟨by kernel_rfl, ?hp24⟩) ?_
                case hp24 => (intro w; go_simp; try with_reducible rfl)
                try simp only [Act.put, List.setIfInBounds_toArray, List.set_cons_zero, List.set_cons_succ, List.getElem_toArray, List.getElem_cons_zero, List.getElem_cons_succ]
                refine wpAny_take (i := 25) (v := ?vp25) rfl (by kernel_rfl) (by kernel_rfl) (by kernel_rfl) (fun _ _ _ h => h) (Or.inl ⟨by kernel_rfl, ?hp25⟩) ?_
                case hp25 => (intro w; go_simp; try with_reducible rfl)
                try simp only [Act.put, List.setIfInBounds_toArray, List.set_cons_zero, List.set_cons_succ, List.getElem_toArray, List.getElem_cons_zero, List.getElem_cons_succ]
                refine wpAny_take (i := 26) (v := ?vp26) rfl (by kernel_rfl) (by kernel_rfl) (by kernel_rfl) (fun _ _ _ h => h) (Or.inl ⟨by kernel_rfl, ?hp26⟩) ?_
                case hp26 => (intro w; go_simp; try with_reducible rfl)
                try simp only [Act.put, List.setIfInBounds_toArray, List.set_cons_zero, List.set_cons_succ, List.getElem_toArray, List.getElem_cons_zero, List.getElem_cons_succ]
                refine wpAny_take (i := 28) (v := ?vp28) rfl (by kernel_rfl) (by kernel_rfl) (by kernel_rfl) (fun _ _ _ h => h) (Or.inl ⟨by kernel_rfl, ?hp28⟩) ?_
                case hp28 => (intro w; go_simp; try with_reducible rfl)
                try simp only [Act.put, List.setIfInBounds_toArray, List.set_cons_zero, List.set_cons_succ, List.getElem_toArray, List.getElem_cons_zero, List.getElem_cons_succ]
                refine wpAny_take (i := 29) (v := ?vp29) rfl (by kernel_rfl) (by kernel_rfl) (by kernel_rfl) (fun _ _ _ h => h) (Or.inl ⟨by kernel_rfl, ?hp29⟩) ?_
                case hp29 => (intro w; go_simp; try with_reducible rfl)
                try simp only [Act.put, List.setIfInBounds_toArray, List.set_cons_zero, List.set_cons_succ, List.getElem_toArray, List.getElem_cons_zero, List.getElem_cons_succ]
                refine wpAny_take (i := 30) (v := ?vp30) rfl (by kernel_rfl) (by kernel_rfl) (by kernel_rfl) (fun _ _ _ h => h) (Or.inl ⟨by kernel_rfl, ?hp30⟩) ?_
                case hp30 => (intro w; go_simp; try with_reducible rfl)
                try simp only [Act.put, List.setIfInBounds_toArray, List.set_cons_zero, List.set_cons_succ, List.getElem_toArray, List.getElem_cons_zero, List.getElem_cons_succ]
                refine wpAny_ready (rs := [27]) (by kernel_rfl) (by simp) ?_
                refine AllReady.cons rfl (fun K hK => ?_) AllReady.nil
                go_simp
                with_reducible refine (HAl.out _ hqb3).mono ?_
                rintro _ wb4 ⟨⟨va5, vc5, rfl, hv5⟩, hqb4⟩
                go_simp
                refine hK _ _ ?_
                clear hK K
                try simp only [Act.put, List.setIfInBounds_toArray, List.set_cons_zero, List.set_cons_succ, List.getElem_toArray, List.getElem_cons_zero, List.getElem_cons_succ]
                refine wpAny_ready (rs := [31]) (by kernel_rfl) (by simp) ?_
                refine AllReady.cons rfl (fun K hK => ?_) AllReady.nil
                go_simp
                with_reducible refine (HBa.out _ _ hqb4 hv5).mono ?_
                rintro _ wb5 ⟨rfl, hqb5⟩
                go_simp
                refine hK _ _ ?_
                clear hK K
                try simp only [Act.put, List.setIfInBounds_toArray, List.set_cons_zero, List.set_cons_succ, List.getElem_toArray, List.getElem_cons_zero, List.getElem_cons_succ]
                refine wpAny_take (i := 32) (v := ?vp32) rfl (by kernel_rfl) (by kernel_rfl) (by kernel_rfl) (fun _ _ _ h => h) (Or.inl ⟨by kernel_rfl, ?hp32⟩) ?_
                case hp32 => (intro w; go_simp; try with_reducible rfl)
                try simp only [Act.put, List.setIfInBounds_toArray, List.set_cons_zero, List.set_cons_succ, List.getElem_toArray, List.getElem_cons_zero, List.getElem_cons_succ]
                refine wpAny_take (i := 33) (v := ?vp33) rfl (by kernel_rfl) (by kernel_rfl) (by kernel_rfl) (fun _ _ _ h => h) (Or.inl ⟨by kernel_rfl, ?hp33⟩) ?_
                case hp33 => (intro w; go_simp; try with_reducible rfl)
                try simp only [Act.put, List.setIfInBounds_toArray, List.set_cons_zero, List.set_cons_succ, List.getElem_toArray, List.getElem_cons_zero, List.getElem_cons_succ]
                refine wpAny_done (by kernel_rfl) ?_ _
                go_wp2_with fail
                go_meet
                exact ⟨rfl, hqb5⟩
              · have hc1' : cn ≤ 1 := by omega
                have hdc : decide (1 < cn) = false := by simpa using hc1'
                refine wp_region_any (by kernel_rfl) ?_
                try (change wpAny _ _ _ _ _ _ _ (World.drew _))
                refine wpAny_take (i := 0) (v := ?vn0) rfl (by kernel_rfl) (by kernel_rfl) (by kernel_rfl) (fun _ _ _ h => h) (Or.inl ⟨by kernel_rfl, ?hn0⟩) ?_
                case hn0 => (intro w; go_simp; try with_reducible rfl)
                try simp only [Act.put, List.setIfInBounds_toArray, List.set_cons_zero, List.set_cons_succ, List.getElem_toArray, List.getElem_cons_zero, List.getElem_cons_succ]
                refine wpAny_take (i := 1) (v := ?vn1) rfl (by kernel_rfl) (by kernel_rfl) (by kernel_rfl) (fun _ _ _ h => h) (Or.inl ⟨by kernel_rfl, ?hn1⟩) ?_
                case hn1 => (intro w; go_simp; try with_reducible rfl)
                try simp only [Act.put, List.setIfInBounds_toArray, List.set_cons_zero, List.set_cons_succ, List.getElem_toArray, List.getElem_cons_zero, List.getElem_cons_succ]
                refine wpAny_take (i := 2) (v := ?vn2) rfl (by kernel_rfl) (by kernel_rfl) (by kernel_rfl) (fun _ _ _ h => h) (Or.inl ⟨by kernel_rfl, ?hn2⟩) ?_
                case hn2 => (intro w; go_simp; try with_reducible rfl)
                try simp only [Act.put, List.setIfInBounds_toArray, List.set_cons_zero, List.set_cons_succ, List.getElem_toArray, List.getElem_cons_zero, List.getElem_cons_succ]
                refine wpAny_take (i := 3) (v := ?vn3) rfl (by kernel_rfl) (by kernel_rfl) (by kernel_rfl) (fun _ _ _ h => h) (Or.inl ⟨by kernel_rfl, ?hn3⟩) ?_
                case hn3 => (intro w; go_simp; try with_reducible rfl)
                try simp only [Act.put, List.setIfInBounds_toArray, List.set_cons_zero, List.set_cons_succ, List.getElem_toArray, List.getElem_cons_zero, List.getElem_cons_succ]
                refine wpAny_ready (rs := [4]) (by kernel_rfl) (by simp) ?_
                refine AllReady.cons rfl (fun K hK => ?_) AllReady.nil
                go_simp
                refine hK _ _ ?_
                clear hK K
                try simp only [Act.put, List.setIfInBounds_toArray, List.set_cons_zero, List.set_cons_succ, List.getElem_toArray, List.getElem_cons_zero, List.getElem_cons_succ]
                refine wpAny_take (i := 5) (v := ?vn5) rfl (by kernel_rfl) (by kernel_rfl) (by kernel_rfl) (fun _ _ _ h => h) (Or.inl ⟨by kernel_rfl, ?hn5⟩) ?_
                case hn5 => (intro w; go_simp; try with_reducible rfl)
                try simp only [Act.put, List.setIfInBounds_toArray, List.set_cons_zero, List.set_cons_succ, List.getElem_toArray, List.getElem_cons_zero, List.getElem_cons_succ]
                refine wpAny_take (i := 6) (v := ?vn6) rfl (by kernel_rfl) (by kernel_rfl) (by kernel_rfl) (fun _ _ _ h => h) (Or.inl ⟨by kernel_rfl, ?hn6⟩) ?_
                case hn6 => (intro w; go_simp; try with_reducible rfl)
                try simp only [Act.put, List.setIfInBounds_toArray, List.set_cons_zero, List.set_cons_succ, List.getElem_toArray, List.getElem_cons_zero, List.getElem_cons_succ]
                refine wpAny_take (i := 7) (v := undef) rfl (by kernel_rfl) (by kernel_rfl) (by kernel_rfl) (fun _ _ _ h => h) (Or.inr ⟨by kernel_rfl, rfl⟩) ?_
                try simp only [Act.put, List.setIfInBounds_toArray, List.set_cons_zero, List.set_cons_succ, List.getElem_toArray, List.getElem_cons_zero, List.getElem_cons_succ]
                refine wpAny_take (i := 8) (v := undef) rfl (by kernel_rfl) (by kernel_rfl) (by kernel_rfl) (fun _ _ _ h => h) (Or.inr ⟨by kernel_rfl, rfl⟩) ?_
                try simp only [Act.put, List.setIfInBounds_toArray, List.set_cons_zero, List.set_cons_succ, List.getElem_toArray, List.getElem_cons_zero, List.getElem_cons_succ]
                refine wpAny_take (i := 9) (v := undef) rfl (by kernel_rfl) (by kernel_rfl) (by kernel_rfl) (fun _ _ _ h => h) (Or.inr ⟨by kernel_rfl, rfl⟩) ?_
                try simp only [Act.put, List.setIfInBounds_toArray, List.set_cons_zero, List.set_cons_succ, List.getElem_toArray, List.getElem_cons_zero, List.getElem_cons_succ]
                refine wpAny_take (i := 10) (v := undef) rfl (by kernel_rfl) (by kernel_rfl) (by kernel_rfl) (fun _ _ _ h => h) (Or.inr ⟨by kernel_rfl, rfl⟩) ?_
                try simp only [Act.put, List.setIfInBounds_toArray, List.set_cons_zero, List.set_cons_succ, List.getElem_toArray, List.getElem_cons_zero, List.getElem_cons_succ]
                refine wpAny_take (i := 11) (v := undef) rfl (by kernel_rfl) (by kernel_rfl) (by kernel_rfl) (fun _ _ _ h => h) (Or.inr ⟨by kernel_rfl, rfl⟩) ?_
                try simp only [Act.put, List.setIfInBounds_toArray, List.set_cons_zero, List.set_cons_succ, List.getElem_toArray, List.getElem_cons_zero, List.getElem_cons_succ]
                refine wpAny_take (i := 12) (v := ?vn12) rfl (by kernel_rfl) (by kernel_rfl) (by kernel_rfl) (fun _ _ _ h => h) (Or.inl ⟨by kernel_rfl, ?hn12⟩) ?_
                case hn12 => (intro w; go_simp; try with_reducible rfl)
                try simp only [Act.put, List.setIfInBounds_toArray, List.set_cons_zero, List.set_cons_succ, List.getElem_toArray, List.getElem_cons_zero, List.getElem_cons_succ]
                refine wpAny_take (i := 13) (v := ?vn13) rfl (by kernel_rfl) (by kernel_rfl) (by kernel_rfl) (fun _ _ _ h => h) (Or.inl ⟨by kernel_rfl, ?hn13⟩) ?_
                case hn13 => (intro w; go_simp; try with_reducible rfl)
                try simp only [Act.put, List.setIfInBounds_toArray, List.set_cons_zero, List.set_cons_succ, List.getElem_toArray, List.getElem_cons_zero, List.getElem_cons_succ]
                refine wpAny_take (i := 14) (v := ?vn14) rfl (by kernel_rfl) (by kernel_rfl) (by kernel_rfl) (fun _ _ _ h => h) (Or.inl ⟨by kernel_rfl, ?hn14⟩) ?_
                case hn14 => (intro w; go_simp; try with_reducible rfl)
                try simp only [Act.put, List.setIfInBounds_toArray, List.set_cons_zero, List.set_cons_succ, List.getElem_toArray, List.getElem_cons_zero, List.getElem_cons_succ]
                refine wpAny_take (i := 15) (v := ?vn15) rfl (by kernel_rfl) (by kernel_rfl) (by kernel_rfl) (fun _ _ _ h => h) (Or.inl ⟨by kernel_rfl, ?hn15⟩) ?_
                case hn15 => (intro w; go_simp; try with_reducible rfl)
                try simp only [Act.put, List.setIfInBounds_toArray, List.set_cons_zero, List.set_cons_succ, List.getElem_toArray, List.getElem_cons_zero, List.getElem_cons_succ]
                refine wpAny_ready (rs := [16]) (by kernel_rfl) (by simp) ?_
                refine AllReady.cons rfl (fun K hK => ?_) AllReady.nil
                go_simp
                with_reducible refine (HC2.out _ hq4d).mono ?_
                rintro _ wb2 ⟨rfl, hqb2⟩
                go_simp
                refine hK _ _ ?_
                clear hK K
                try simp only [Act.put, List.setIfInBounds_toArray, List.set_cons_zero, List.set_cons_succ, List.getElem_toArray, List.getElem_cons_zero, List.getElem_cons_succ]
                refine wpAny_take (i := 17) (v := ?vn17) rfl (by kernel_rfl) (by kernel_rfl) (by kernel_rfl) (fun _ _ _ h => h) (Or.inl ⟨by kernel_rfl, ?hn17⟩) ?_
                case hn17 => (intro w; go_simp; try with_reducible rfl)
                try simp only [Act.put, List.setIfInBounds_toArray, List.set_cons_zero, List.set_cons_succ, List.getElem_toArray, List.getElem_cons_zero, List.getElem_cons_succ]
                refine wpAny_take (i := 18) (v := ?vn18) rfl (by kernel_rfl) (by kernel_rfl) (by kernel_rfl) (fun _ _ _ h => h) (Or.inl ⟨by kernel_rfl, ?hn18⟩) ?_
                case hn18 => (intro w; go_simp; try with_reducible rfl)
                try simp only [Act.put, List.setIfInBounds_toArray, List.set_cons_zero, List.set_cons_succ, List.getElem_toArray, List.getElem_cons_zero, List.getElem_cons_succ]
                refine wpAny_take (i := 19) (v := ?vn19) rfl (by kernel_rfl) (by kernel_rfl) (by kernel_rfl) (fun _ _ _ h => h) (Or.inl ⟨by kernel_rfl, ?hn19⟩) ?_
                case hn19 => (intro w; go_simp; try with_reducible rfl)
                try simp only [Act.put, List.setIfInBounds_toArray, List.set_cons_zero, List.set_cons_succ, List.getElem_toArray, List.getElem_cons_zero, List.getElem_cons_succ]
                refine wpAny_take (i := 20) (v := ?vn20) rfl (by kernel_rfl) (by kernel_rfl) (by kernel_rfl) (fun _ _ _ h => h) (Or.inl ⟨by kernel_rfl, ?hn20⟩) ?_
                case hn20 => (intro w; go_simp; try with_reducible rfl)
                try simp only [Act.put, List.setIfInBounds_toArray, List.set_cons_zero, List.set_cons_succ, List.getElem_toArray, List.getElem_cons_zero, List.getElem_cons_succ]
                refine wpAny_take (i := 22) (v := ?vn22) rfl (by kernel_rfl) (by kernel_rfl) (by kernel_rfl) (fun _ _ _ h => h) (Or.inl ⟨by kernel_rfl, ?hn22⟩) ?_
                case hn22 => (intro w; go_simp; try with_reducible rfl)
                try simp only [Act.put, List.setIfInBounds_toArray, List.set_cons_zero, List.set_cons_succ, List.getElem_toArray, List.getElem_cons_zero, List.getElem_cons_succ]
                refine wpAny_ready (rs := [21]) (by kernel_rfl) (by simp) ?_
                refine AllReady.cons rfl (fun K hK => ?_) AllReady.nil
                go_simp
                with_reducible refine (HEn.out _ hqb2).mono ?_
                rintro _ wb3 ⟨rfl, hqb3⟩
                go_simp
                refine hK _ _ ?_
                clear hK K
                try simp only [Act.put, List.setIfInBounds_toArray, List.set_cons_zero, List.set_cons_succ, List.getElem_toArray, List.getElem_cons_zero, List.getElem_cons_succ]
                refine wpAny_take (i := 23) (v := ?vn23) rfl (by kernel_rfl) (by kernel_rfl) (by kernel_rfl) (fun _ _ _ h => h) (Or.inl ⟨by kernel_rfl, ?hn23⟩) ?_
                case hn23 => (intro w; go_simp; try with_reducible rfl)
                try simp only [Act.put, List.setIfInBounds_toArray, List.set_cons_zero, List.set_cons_succ, List.getElem_toArray, List.getElem_cons_zero, List.getElem_cons_succ]
                refine wpAny_take (i := 24) (v := ?vn24) rfl (by kernel_rfl) (by kernel_rfl) (by kernel_rfl) (fun _ _ _ h => h) (Or.inl ⟨by kernel_rfl, ?hn24⟩) ?_
                case hn24 => (intro w; go_simp; try with_reducible rfl)
                try simp only [Act.put, List.setIfInBounds_toArray, List.set_cons_zero, List.set_cons_succ, List.getElem_toArray, List.getElem_cons_zero, List.getElem_cons_succ]
                refine wpAny_take (i := 25) (v := ?vn25) rfl (by kernel_rfl) (by kernel_rfl) (by kernel_rfl) (fun _ _ _ h => h) (Or.inl ⟨by kernel_rfl, ?hn25⟩) ?_
                case hn25 => (intro w; go_simp; try with_reducible rfl)
                try simp only [Act.put, List.setIfInBounds_toArray, List.set_cons_zero, List.set_cons_succ, List.getElem_toArray, List.getElem_cons_zero, List.getElem_cons_succ]
                refine wpAny_take (i := 26) (v := ?vn26) rfl (by kernel_rfl) (by kernel_rfl) (by kernel_rfl) (fun _ _ _ h => h) (Or.inl ⟨by kernel_rfl, ?hn26⟩) ?_
                case hn26 => (intro w; go_simp; try with_reducible rfl)
                try simp only [Act.put, List.setIfInBounds_toArray, List.set_cons_zero, List.set_cons_succ, List.getElem_toArray, List.getElem_cons_zero, List.getElem_cons_succ]
                refine wpAny_take (i := 28) (v := ?vn28) rfl (by kernel_rfl) (by kernel_rfl) (by kernel_rfl) (fun _ _ _ h => h) (Or.inl ⟨by kernel_rfl, ?hn28⟩) ?_
                case hn28 => (intro w; go_simp; try with_reducible rfl)
                try simp only [Act.put, List.setIfInBounds_toArray, List.set_cons_zero, List.set_cons_succ, List.getElem_toArray, List.getElem_cons_zero, List.getElem_cons_succ]
                refine wpAny_take (i := 29) (v := ?vn29) rfl (by kernel_rfl) (by kernel_rfl) (by kernel_rfl) (fun _ _ _ h => h) (Or.inl ⟨by kernel_rfl, ?hn29⟩) ?_
                case hn29 => (intro w; go_simp; try with_reducible rfl)
                try simp only [Act.put, List.setIfInBounds_toArray, List.set_cons_zero, List.set_cons_succ, List.getElem_toArray, List.getElem_cons_zero, List.getElem_cons_succ]
                refine wpAny_take (i := 30) (v := ?vn30) rfl (by kernel_rfl) (by kernel_rfl) (by kernel_rfl) (fun _ _ _ h => h) (Or.inl ⟨by kernel_rfl, ?hn30⟩) ?_
                case hn30 => (intro w; go_simp; try with_reducible rfl)
                try simp only [Act.put, List.setIfInBounds_toArray, List.set_cons_zero, List.set_cons_succ, List.getElem_toArray, List.getElem_cons_zero, List.getElem_cons_succ]
                refine wpAny_ready (rs := [27]) (by kernel_rfl) (by simp) ?_
                refine AllReady.cons rfl (fun K hK => ?_) AllReady.nil
                go_simp
                with_reducible refine (HAl.out _ hqb3).mono ?_
                rintro _ wb4 ⟨⟨va5, vc5, rfl, hv5⟩, hqb4⟩
                go_simp
                refine hK _ _ ?_
                clear hK K
                try simp only [Act.put, List.setIfInBounds_toArray, List.set_cons_zero, List.set_cons_succ, List.getElem_toArray, List.getElem_cons_zero, List.getElem_cons_succ]
                refine wpAny_ready (rs := [31]) (by kernel_rfl) (by simp) ?_
                refine AllReady.cons rfl (fun K hK => ?_) AllReady.nil
                go_simp
                with_reducible refine (HBa.out _ _ hqb4 hv5).mono ?_
                rintro _ wb5 ⟨rfl, hqb5⟩
                go_simp
                refine hK _ _ ?_
                clear hK K
                try simp only [Act.put, List.setIfInBounds_toArray, List.set_cons_zero, List.set_cons_succ, List.getElem_toArray, List.getElem_cons_zero, List.getElem_cons_succ]
                refine wpAny_take (i := 32) (v := ?vn32) rfl (by kernel_rfl) (by kernel_rfl) (by kernel_rfl) (fun _ _ _ h => h) (Or.inl ⟨by kernel_rfl, ?hn32⟩) ?_
                case hn32 => (intro w; go_simp; try with_reducible rfl)
                try simp only [Act.put, List.setIfInBounds_toArray, List.set_cons_zero, List.set_cons_succ, List.getElem_toArray, List.getElem_cons_zero, List.getElem_cons_succ]
                refine wpAny_take (i := 33) (v := ?vn33) rfl (by kernel_rfl) (by kernel_rfl) (by kernel_rfl) (fun _ _ _ h => h) (Or.inl ⟨by kernel_rfl, ?hn33⟩) ?_
                case hn33 => (intro w; go_simp; try with_reducible rfl)
                try simp only [Act.put, List.setIfInBounds_toArray, List.set_cons_zero, List.set_cons_succ, List.getElem_toArray, List.getElem_cons_zero, List.getElem_cons_succ]
                refine wpAny_done (by kernel_rfl) ?_ _
                go_wp2_with fail
                go_meet
                exact ⟨rfl, hqb5⟩
            case rest =>
              obtain ⟨rfl, hq7⟩ := hcut
              have hbt : Calls Tryz.prog 58 #[.int .i64 off, .int .i64 1] wc fun en w' => ∃ v : Value, en = .returned ((batK off 1).v v) ∧ w'.ownsRow wc.heap.size 84 4 v 1 (recCells (recsK off 1)) ∧ Below wc.heap.size wc w' := L7batch_any 1 g1 (by omega) wc
              have HBT := Lib.hid hbt
              have HQ7 := Lib.hid hq7
              clear hbt hq7 hq4 hq4d cellA cellB cellC cellD HC1 HC2 HEn HAl HBa HP5 HDR HQ hb2 hw1 hw2 hkc
              go_wp2_with fail
              refine HBT.out.mono ?_
              rintro en wd1 ⟨v, rfl, ho, hb⟩
              obtain ⟨ra, rc, rfl, -⟩ := (Sl.of_owns ho).shape
              have hqd1 := HB7.out _ _ HQ7.out hb
              have hap := HAp.out wd1 ra rc hqd1 (rcs_of_owns ho (recsK_len off 1).symm)
              have HAP := Lib.hid hap
              clear hap hqd1 ho hb HAp HB7 HBT HQ7
              simp only [Batch.v, batK]
              go_wp2_with fail
              refine HAP.out.mono ?_
              rintro en wd2 ⟨rfl, hqd2⟩
              have hsy := HSy.out _ hqd2
              have HSY := Lib.hid hsy
              clear hsy hqd2 HSy HAP
              go_wp2_with fail
              refine HSY.out.mono ?_
              rintro en wd3 ⟨rfl, hqd3⟩
              have hof := hqd3.tdR.off
              have HOF := Lib.hid hof
              clear hof hqd3 HSY
              go_wp2_with fail
              refine HOF.out.mono ?_
              rintro en wd4 ⟨rfl, hqd4⟩
              have hon := hqd4.on (fv := .slice none 0 0) (l := []) (fun W _ => ⟨rfl, .inl ⟨rfl, rfl⟩⟩)
              have HON := Lib.hid hon
              clear hon hqd4 HOF
              go_wp2_with fail
              refine HON.out.mono ?_
              rintro en wd5 ⟨rfl, t10, hon, hqd5⟩
              obtain ⟨hsf, hlv9, ht9, hpre8, hal8, hsl8, hrow8, hPP, htl⟩ := H9.out
              obtain ⟨d1, d2, d3, d4⟩ := onAt_sure hlv9.down hsf hon
              have ep : bs partB = ⟨#[112, 97, 114, 116]⟩ := rfl
              rw [hpre8] at ht9
              have hop := hqd5.openSt H1.out.1 (pre := partB) (size := sz) (by decide) ⟨hsi.1, by omega⟩ (openS_full d1 (by rw [d3]; exact ht9) hrow8)
              rw [ep] at hop
              have HOP := Lib.hid hop
              have hsz := HSZ.out
              unfold sizeS at hsz
              clear hop hqd5 hsf hlv9 ht9 hpre8 hal8 hsl8 hrow8 hPP htl hon d1 d2 d3 d4 ep HON
              go_wp2_with fail
              refine HOP.out.mono ?_
              rintro en wd6 ⟨ub, rfl, hq6⟩
              obtain ⟨hsf, hlv9, ht9, hpre8, hal8, hsl8, hrow8, hPP, htl⟩ := H9.out
              have hll := hq6.all hrow8 (by simp only; omega) (by simp only [hal8, List.length_append, htl]; simp; omega)
              simp only at hll
              rw [hal8] at hll
              obtain ⟨l2, hl2⟩ : ∃ l2, l.take k ++ [batK off 1] = l2 := ⟨_, rfl⟩
              rw [hl2] at hll
              have hl2n : l2.length = k + 1 := by rw [← hl2, List.length_append, htl]; rfl
              rw [hl2n] at hll
              have HLL := Lib.hid hll
              have HPP := Lib.hid (And.intro hPP (And.intro hl2 htl))
              clear hll hq6 hsf hlv9 ht9 hpre8 hal8 hsl8 hrow8 hPP htl hl2 hl2n hsz HOP HSZ H9
              go_wp2_with fail
              refine HLL.out.mono ?_
              rintro en wd7 ⟨⟨va, vc, rfl, hv7⟩, hq7⟩
              obtain ⟨hPP, hl2, htl⟩ := HPP.out
              obtain ⟨m1, hm1, hr1, hx1⟩ := (hPP _ hq7.p).take k (by rw [List.length_take] at htl; omega)
              have hm1k : m1.length = k := by rw [← htl, ← hm1, List.length_map]
              rw [hm1k] at hr1
              obtain ⟨n7, hn7⟩ : ∃ n7, wd7.heap.size = n7 := ⟨_, rfl⟩
              obtain ⟨w8, hw8⟩ : ∃ w8, w8 = wd7.alloc (.cells #[] 40) := ⟨_, rfl⟩
              have hb8 : Below wd7.heap.size wd7 w8 := by rw [hw8]; exact below_alloc _ _
              have hr8 : Rd w8 6 (.slice (some ⟨bb, bo, none⟩) k wcp) k (bCells m1) := hr1.below hb8
              have hone : ∀ u ∈ bCells m1, u.oneCell' = true := one_bs (fun x hx => rd_one (hx1 x hx))
              have hown : w8.ownsRow n7 40 6 (.slice (some ⟨n7, 0, none⟩) 0 0) 0 [] := by
                rw [hw8, ← hn7]
                exact World.ownsRow_made wd7 #[] 0 (Nat.le_refl _) (Nat.zero_le _) rfl
              have hz8 : n7 ≤ w8.heap.size := by rw [← hn7]; exact hb8.size
              have hB0 : Below w.heap.size w wd7 := H1.out.2.2.trans (hq7.base.mono H1.out.2.2.size)
              have HX := Lib.hid (And.intro hm1 (And.intro hm1k (And.intro hx1 (And.intro hl2 (And.intro hn7 (And.intro hb8 hB0))))))
              have HR8 := Lib.hid hr8
              have HONE := Lib.hid hone
              have HOWN := Lib.hid hown
              have HV7 := Lib.hid hv7
              have HZ8 := Lib.hid hz8
              clear hPP hl2 htl hm1 hr1 hx1 hm1k hb8 hr8 hone hown hq7 hv7 hz8 HPP HLL hB0
              obtain ⟨i0, hi7, hz0, hz1, hz2⟩ := info_parts info_Batch6
              have hkc : (k : Int) ≤ (wcp : Int) := by have := HWC.out; omega
              have hkn60 : k ≤ 60 := by omega
              go_upto_region 27 with fail
              go_wp2_with (first
                | (at_builtin; refine wpList_ungd (by kernel_rfl) ?_; refine wpList_append_any rfl _ _ 89 rfl n7 40 i0 _ 6 64 und_Batches6 hi7 hz0 hz1 hz2 rfl (by decide) (.slice (some ⟨n7, 0, none⟩) 0 0) 0 [] rfl (hw8 ▸ HOWN.out) (.slice (some ⟨bb, bo, none⟩) k wcp) k (bCells m1) rfl (hw8 ▸ HR8.out) HONE.out (by unfold maxLen; omega) (by omega) (hw8 ▸ HZ8.out) ?_; intro a9 c9 w9 hown9 hgrow9 hat9; rw [Nat.zero_add] at hown9 hat9 ⊢; have H9 := Lib.hid (And.intro hown9 (And.intro hgrow9 hat9)); clear hown9 hgrow9 hat9))
              obtain ⟨hown9, hgrow9, -⟩ := H9.out
              rw [← hw8] at hgrow9
              obtain ⟨hm1, hm1k, hx1, hl2, hn7, hb8, hB0⟩ := HX.out
              have hb9 : Below wd7.heap.size wd7 w9 := hb8.grown hgrow9 (by rw [hn7]; exact HZ8.out) (fun q e => by simp [Value.ownBlock] at e; omega)
              have hbt : Calls Tryz.prog 58 #[.int .i64 off, .int .i64 1] w9 fun en w' => ∃ v : Value, en = .returned ((batK off 1).v v) ∧ w'.ownsRow w9.heap.size 84 4 v 1 (recCells (recsK off 1)) ∧ Below w9.heap.size w9 w' := L7batch_any 1 g1 (by omega) w9
              have HBT := Lib.hid hbt
              have HB9 := Lib.hid (And.intro hb9 hown9)
              clear hbt hb9 hown9 hgrow9 hm1 hm1k hx1 hl2 hn7 hb8 hB0 H9 hw8 HOWN HR8 HONE hkc
              refine HBT.out.mono ?_
              rintro en w10 ⟨v, rfl, ho10, hb10⟩
              obtain ⟨ra, rc, rfl, -⟩ := (Sl.of_owns ho10).shape
              obtain ⟨hb9, hown9⟩ := HB9.out
              obtain ⟨hm1, hm1k, hx1, hl2, hn7, hb8, hB0⟩ := HX.out
              have hz9 := hb9.size
              have hz10 := hb10.size
              have hrow : ∀ o, (w10.alloc o).ownsRow n7 40 6 (.slice a9 k c9) k (bCells m1) := fun o => (owns_upd hown9 (Upd.of_below (F := fun _ => False) hb10) (fun _ _ h => h)).alloc o
              have hbse : ∀ o, n7 ≤ (w10.alloc o).heap.size := fun o => by simp only [World.size_alloc]; omega
              have hfin : ∀ (g c12 : Nat) (w12 : World) (o : Obj), w12.ownsRow n7 40 6 (.slice (some ⟨g, 0, none⟩) (k + 1) c12) (k + 1) (bCells m1 ++ [.int .i64 off, .int .i64 1, .int .i64 0, .int .i64 0, .int .i64 0, .slice ra 1 rc]) → (w10.alloc o).grownBy w12 (Value.slice a9 k c9).ownBlock →
                  BsRd w12 (.slice va (k + 1) vc) l2 ∧ BsRd w12 (.slice (some ⟨g, 0, none⟩) (k + 1) c12) l2 ∧ Below w.heap.size w w12 := by
                intro g c12 w12 o h1 h2
                have hu : Upd (fun q => some q = (Value.slice a9 k c9).ownBlock) w10 w12 := (upd_alloc _ w10 o).trans (upd_grown h2)
                have hq9 : ∀ q, some q = (Value.slice a9 k c9).ownBlock → n7 ≤ q ∧ q < w9.heap.size := fun q e => owns_lt hown9 q e.symm
                have hb12 : Below wd7.heap.size wd7 w12 := (hb9.trans (hb10.mono hb9.size)).trans (hu.toBelow (by omega) (fun q e => by have := hq9 q e; omega))
                refine ⟨HV7.out.below hb12, ⟨m1 ++ [(.slice ra 1 rc, batK off 1)], by rw [List.map_append, hm1]; exact hl2, ?_, fun x hx => ?_⟩, hB0.trans (hb12.mono hB0.size)⟩
                · have e1 : (m1 ++ [((.slice ra 1 rc : Value), batK off 1)]).length = k + 1 := by simp [hm1k]
                  have e2 : bCells (m1 ++ [((.slice ra 1 rc : Value), batK off 1)]) = bCells m1 ++ [.int .i64 off, .int .i64 1, .int .i64 0, .int .i64 0, .int .i64 0, .slice ra 1 rc] := by simp [bCells, batK]
                  rw [e1, e2]
                  exact (Sl.of_owns h1).rd
                · rcases List.mem_append.1 hx with hx | hx
                  · exact (hx1 x hx).below hb12
                  · simp only [List.mem_singleton] at hx
                    subst hx
                    have h3 := owns_upd ho10 hu (fun q hq e => by have h4 := (owns_lt ho10 q hq).1; have := hq9 q e; omega)
                    exact rcs_of_owns h3 (recsK_len off 1).symm
              have HROW := Lib.hid hrow
              have HBSE := Lib.hid hbse
              have HFIN := Lib.hid hfin
              clear hrow hbse hfin hb9 hown9 hm1 hm1k hx1 hl2 hn7 hb8 hB0 ho10 hb10 hz9 hz10 HB9 HX HV7 HBT
              simp only [Batch.v, batK]
              go_wp2_with (first
                | (at_builtin; refine wpList_ungd (by kernel_rfl) ?_; refine wpList_append_lies _ rfl _ _ 89 rfl n7 40 i0 _ 6 64 und_Batches6 hi7 hz0 hz1 hz2 rfl (by decide) (.slice a9 k c9) k (bCells m1) rfl (HROW.out _) _ 1 1 [.int .i64 off, .int .i64 1, .int .i64 0, .int .i64 0, .int .i64 0, .slice ra 1 rc] rfl rfl (World.news_of_block (cs := #[.int .i64 off, .int .i64 1, .int .i64 0, .int .i64 0, .int .i64 0, .slice ra 1 rc]) (t := 40) (fr := (0, 0)) (heap_alloc_new w10 _)) (by simp [Value.oneCell']) (by decide) (by unfold maxLen; omega) (by omega) (HBSE.out _) _ rfl ?_; intro g12 c12 w12 hown12 hgrow12 hat12 hlt12; have HF := Lib.hid (HFIN.out _ _ _ _ hown12 hgrow12); clear hown12 hgrow12 hat12 hlt12))
              refine (Batches7_same HF.out.1 HF.out.2.1).mono ?_
              rintro en w13 ⟨rfl, hb13⟩
              have hend := HF.out.2.2.trans (hb13.mono HF.out.2.2.size)
              have HEND := Lib.hid hend
              clear hend hb13 HF HFIN HROW HBSE
              go_wp2_with fail
              go_ret
              exact ⟨rfl, HEND.out⟩
end Go.Proofs.YtcpaaleogmiamaaGreatDoor
