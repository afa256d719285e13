/- The walk of heliographlaw07.StrandReadsOn. -/
import Derived.Test.YtcpaaleogmiamaaGreatDoorMp34
namespace Go.Proofs.YtcpaaleogmiamaaGreatDoor
open Go.RowKit

theorem recsB_len : ∀ {l : List Batch}, (∀ b ∈ l, goodB b = true) → (recsB l).length ≤ 8 * l.length
  | [], _ => Nat.le_refl _
  | b :: l, h => by
    have h1 := recsB_len (l := l) (fun x hx => h x (by simp [hx]))
    have G := (goodB_iff b).1 (h b (by simp))
    have := G.len
    have := G.count
    simp only [recsB, List.flatMap_cons, List.length_append, List.length_cons] at h1 ⊢
    omega
theorem Sd.other {w0 w w' : World} {S F : Nat → Prop} {sb b mb : Nat} {L : TpL} {x : St} {t : Tp} (h : Sd w0 w S sb b mb L x t) (hu : Upd F w w') (hF : ∀ k, F k → ¬ S k ∧ ¬ TpF b mb L k ∧ w0.heap.size ≤ k) : Sd w0 w' S sb b mb L x t :=
  ⟨h.st.upd hu (fun k hk hf => (hF k hf).1 hk), h.tp.upd hu (fun k hk hf => (hF k hf).2.1 hk), h.apart, h.ok, h.names, h.base.trans (hu.toBelow h.base.size (fun k hf => (hF k hf).2.2)), h.aboveS, h.aboveT⟩

/-- What stands when i acts are played: want holds the records of what was taken. -/
def RoR (w2 : World) (sb b mb : Nat) (i : Nat) (wv : Value) (W : World) : Prop :=
  ∃ (L : TpL) (S : Nat → Prop) (x : St) (t : Tp), Sd w2 W S sb b mb L x t ∧ Lin x ∧ (allB x.segs).length ≤ i ∧ x.segs.length ≤ i ∧ W.ownsRow w2.heap.size 84 4 wv (recsB (allB x.segs)).length (recCells (recsB (allB x.segs))) ∧ ∀ g, wv.ownBlock = some g → ¬ S g ∧ ¬ TpF b mb L g

theorem appS_segs {t : Tp} {x : St} (b : Batch) : (appS t x b).2.1.segs.length ≤ x.segs.length + 1 := by
  have hss := (syncS_segs t x).1
  have hfull : (fullS t x b).2.1.segs.length ≤ x.segs.length + 1 := by
    unfold fullS
    split
    · rw [hss]; omega
    · simp only
      split
      · simp
      · simp only [stDid, hss]; omega
  unfold appS
  split
  · simp
  split
  · simp
  split
  · simp
  split
  · split
    · unfold moreS
      simp only
      split
      · simp
      · simp [stDid]
    · exact hfull
  · exact hfull

/-- What stands when k records are read. -/
structure Ro2 (w2 : World) (sb b mb : Nat) (L : TpL) (S : Nat → Prop) (x : St) (t : Tp) (R : List Rec) (wa : Option Addr) (wc : Nat) (k : Nat) (gv : Value) (W : World) : Prop where
  sd : Sd w2 W S sb b mb L x t
  want : W.ownsRow w2.heap.size 84 4 (.slice wa R.length wc) R.length (recCells R)
  wown : ∀ g, (Value.slice wa R.length wc).ownBlock = some g → ¬ S g ∧ ¬ TpF b mb L g
  got : W.ownsRow w2.heap.size 84 4 gv (R.take k).length (recCells (R.take k))
  gown : ∀ g, gv.ownBlock = some g → ¬ S g ∧ ¬ TpF b mb L g ∧ (Value.slice wa R.length wc).ownBlock ≠ some g

theorem mem_allB {s : List Sg} {g : Sg} (h : g ∈ s) : g.list.length ≤ (allB s).length := by
  induction s with
  | nil => cases h
  | cons a s ih =>
    simp only [allB, List.flatMap_cons, List.length_append] at ih ⊢
    rcases List.mem_cons.1 h with rfl | h
    · omega
    · have := ih h; omega
theorem zero6 {W : World} {b : Nat} {T : TypeId} (h : W.heap[b]? = some (.cells #[.int .i64 0, .int .i64 0, .int .i64 0, .int .i64 0, .int .i64 0, .slice none 0 0] T (0, 0))) :
    W.cell? ⟨b, 0, none⟩ = some (.int .i64 0) ∧ W.cell? ⟨b, 1, none⟩ = some (.int .i64 0) ∧ W.cell? ⟨b, 2, none⟩ = some (.int .i64 0) ∧ W.cell? ⟨b, 3, none⟩ = some (.int .i64 0) ∧ W.cell? ⟨b, 4, none⟩ = some (.int .i64 0) ∧ W.cell? ⟨b, 5, none⟩ = some (.slice none 0 0) ∧
    W.frozen? ⟨b, 0, none⟩ = false ∧ W.frozen? ⟨b, 1, none⟩ = false ∧ W.frozen? ⟨b, 2, none⟩ = false ∧ W.frozen? ⟨b, 3, none⟩ = false ∧ W.frozen? ⟨b, 4, none⟩ = false ∧ W.frozen? ⟨b, 5, none⟩ = false :=
  ⟨cells_of h 0 _ rfl, cells_of h 1 _ rfl, cells_of h 2 _ rfl, cells_of h 3 _ rfl, cells_of h 4 _ rfl, cells_of h 5 _ rfl, frozen_of h, frozen_of h, frozen_of h, frozen_of h, frozen_of h, frozen_of h⟩

set_option maxRecDepth 100000 in
set_option maxHeartbeats 8000000 in
theorem StReadsOn_any {w : World} (hE : Env w) (seg step : Int) {v : Value} {A : List SAct} (h : SActsRd w v A) : Calls Tryz.prog 5 #[.int .i64 seg, v, .int .i64 step] w fun e w' => e = .returned (.bool true) ∧ Below w.heap.size w w' := by
  obtain ⟨a, c, rfl, hml⟩ := h.shape
  have hal : (A.length : Int) ≤ 9223372036854775807 := by unfold maxLen at hml; omega
  have H0 := Lib.hid (And.intro hE h)
  have haw := L7awake_any hE
  have HAW := Lib.hid haw
  clear hE h haw hml
  go_enter Tryz.func5, Tryz.ntmps5
  go_wp2_with fail
  refine HAW.out.mono ?_
  rintro e w1 ⟨rfl, hb1⟩
  have hgr := L7great_any (H0.out.2.below hb1)
  have HGR := Lib.hid hgr
  have H1 := Lib.hid (And.intro (H0.out.1.below hb1) (And.intro (H0.out.2.below hb1) hb1))
  clear hgr hb1 HAW H0
  go_wp2_with fail
  refine HGR.out.mono ?_
  rintro e w2 ⟨⟨g, rfl, hsm⟩, hw2⟩
  subst hw2
  have HSM := Lib.hid hsm
  clear hsm HGR
  cases g with
  | true =>
    go_wp2_with fail
    go_ret
    exact ⟨rfl, H1.out.2.2⟩
  | false =>
    have hop := L7opened_any H1.out.1 seg
    have HOP := Lib.hid hop
    clear hop
    go_wp2_with fail
    refine HOP.out.mono ?_
    rintro e w3 ⟨b, mb, sb, L, S, rfl, hsd⟩
    have hsm : ∀ i (hi : i < A.length), i < 60 → A[i].b.recs.length ≤ 20 := fun i hi h => (HSM.out trivial i hi h).1
    go_upto_region 9 with fail
    obtain ⟨w4, hw4⟩ : ∃ w4, w4 = w3.alloc (.cells #[] 84) := ⟨_, rfl⟩
    obtain ⟨wb, hwb⟩ : ∃ wb, w3.heap.size = wb := ⟨_, rfl⟩
    have hst : RoR w2 sb b mb 0 (.slice (some ⟨wb, 0, none⟩) 0 0) w4 := by
      have hb4 : Below w3.heap.size w3 w4 := by rw [hw4]; exact below_alloc _ _
      refine ⟨L, S, _, _, hsd.below hb4, ⟨0, Int.le_refl _, trivial⟩, Nat.le_refl _, Nat.le_refl _, ?_, ?_⟩
      · rw [hw4, ← hwb]
        exact World.ownsRow_made w3 #[] 0 hsd.base.size (Nat.zero_le _) rfl
      · intro g hg
        simp only [Value.ownBlock, Option.some.injEq] at hg
        subst hg
        exact ⟨fun hs => by have := hsd.st.lt _ hs; omega, fun hs => by have := hsd.tp.fLt _ hs; omega⟩
    rw [← hw4, hwb]
    have HST := Lib.hid hst
    have HS20 := Lib.hid hsm
    clear hst hw4 hwb hsd hsm HOP HSM
    go_wp2_with fail
    go_loopg [9, 10] A.length (fun gk v9 v10 wr => ∃ i : Nat, i ≤ A.length ∧ i ≤ 60 ∧ gk = A.length - i ∧ v10 = .int .i64 i ∧ RoR w2 sb b mb i v9 wr)
    case atStart => exact ⟨0, Nat.zero_le _, Nat.zero_le _, rfl, rfl, HST.out⟩
    case round =>
      obtain ⟨i, hi, hi60, rfl, rfl, hro⟩ := hrel
      by_cases hgo : i < A.length ∧ i < 60
      · obtain ⟨hit, hi6⟩ := hgo
        obtain ⟨L5, S5, x5, t5, hd5, hlin, hal5, hsl5, how5, hown5⟩ := hro
        obtain ⟨wa, wc5, rfl, -⟩ := (Sl.of_owns how5).shape
        have hacts := H1.out.2.1.below hd5.base
        obtain ⟨ab, ao, ra, rc, la, lc, fa, fc, rfl, q0, q1, q2, q3, q4, q5, q6, q7, q8, q9, q10, q11, hrr, -, -⟩ := hacts.at i hit
        obtain ⟨x, hx⟩ : ∃ x, A[i] = x := ⟨_, rfl⟩
        have h20 : x.b.recs.length ≤ 20 := by rw [← hx]; exact HS20.out i hit hi6
        rw [hx] at q0 q1 q2 q3 q4 q5 q6 q7 q8 q9 q10 q11 hrr
        have j1 : (i : Int) < (A.length : Int) := by omega
        have j2 : (0 : Int) ≤ (i : Int) := by omega
        have j3 : (i : Int) < 60 := by omega
        have H5 := Lib.hid (And.intro hd5 (And.intro hlin (And.intro hal5 (And.intro hsl5 (And.intro how5 hown5)))))
        have HRR := Lib.hid hrr
        clear hacts hd5 hlin hal5 hsl5 how5 hown5 hrr hx
        go_upto_region 14 with fail
        obtain ⟨nb, hnb⟩ : ∃ nb, wr.heap.size = nb := ⟨_, rfl⟩
        obtain ⟨wx, hwx⟩ : ∃ wx, wx = wr.alloc (.cells #[.int .i64 x.kind, .int .i64 x.b.base, .int .i64 x.b.count, .int .i64 x.b.prod, .int .i64 x.b.seq, .int .i64 x.b.time, .slice ra x.b.recs.length rc, .bool true, .int .i64 x.n, .slice la x.less.length lc, .slice fa x.fates.length fc, .string x.name] 78) := ⟨_, rfl⟩
        have hbx : Below wr.heap.size wr wx := by rw [hwx]; exact below_alloc _ _
        have hbc : wx.heap[nb]? = some (.cells #[.int .i64 x.kind, .int .i64 x.b.base, .int .i64 x.b.count, .int .i64 x.b.prod, .int .i64 x.b.seq, .int .i64 x.b.time, .slice ra x.b.recs.length rc, .bool true, .int .i64 x.n, .slice la x.less.length lc, .slice fa x.fates.length fc, .string x.name] 78 (0, 0)) := by rw [hwx, ← hnb]; exact heap_alloc_new _ _
        rw [← hwx, hnb]
        have hen : ∀ W, Below wx.heap.size wx W → Calls Tryz.prog 32 #[.pointer (some ⟨sb, 0, none⟩)] W fun e w' => e = .returned (.int .i64 (endS x5.segs)) ∧ Below wx.heap.size wx w' ∧ Below W.heap.size W w' := fun W hW => (StEnd_any ((H5.out.1.below hbx).below hW).st H5.out.1.ok).mono (fun e w' h => ⟨h.1, below_trans hW h.2, h.2⟩)
        obtain ⟨ev, hev⟩ : ∃ ev, endS x5.segs = ev := ⟨_, rfl⟩
        rw [hev] at hen
        have hnx : ∀ W, Below wx.heap.size wx W → Calls Tryz.prog 31 #[x.v (.slice ra x.b.recs.length rc) (.slice la x.less.length lc) (.slice fa x.fates.length fc) true, .int .i64 ev] W fun en w' => ∃ (va : Option Addr) (vc : Nat), en = .returned (.agg #[.int .i64 ev, .int .i64 x.b.count, .int .i64 x.b.prod, .int .i64 x.b.seq, .int .i64 x.b.time, .slice va x.b.recs.length vc]) ∧ w'.ownsRow wx.heap.size 84 4 (.slice va x.b.recs.length vc) x.b.recs.length (recCells (nextB x.b ev).recs) ∧ Below wx.heap.size wx w' ∧ Below W.heap.size W w' := by
          intro W hW
          refine (L7next_any (HRR.out.below (hbx.trans (hW.mono hbx.size))) h20 ev).mono ?_
          rintro en w' ⟨v, rfl, hv, hb⟩
          obtain ⟨va, vc, rfl, -⟩ := (Sl.of_owns hv).shape
          exact ⟨va, vc, rfl, owns_mono hv hW.size, below_trans hW hb, hb⟩
        simp only [SAct.v] at hnx
        have hk12 : ∀ W, Below wx.heap.size wx W → W.cell? ⟨nb, 0, none⟩ = some (.int .i64 x.kind) ∧ W.cell? ⟨nb, 1, none⟩ = some (.int .i64 x.b.base) ∧ W.cell? ⟨nb, 2, none⟩ = some (.int .i64 x.b.count) ∧ W.cell? ⟨nb, 3, none⟩ = some (.int .i64 x.b.prod) ∧ W.cell? ⟨nb, 4, none⟩ = some (.int .i64 x.b.seq) ∧ W.cell? ⟨nb, 5, none⟩ = some (.int .i64 x.b.time) ∧ W.cell? ⟨nb, 6, none⟩ = some (.slice ra x.b.recs.length rc) ∧
            W.cell? ⟨nb, 7, none⟩ = some (.bool true) ∧ W.cell? ⟨nb, 8, none⟩ = some (.int .i64 x.n) ∧ W.cell? ⟨nb, 9, none⟩ = some (.slice la x.less.length lc) ∧ W.cell? ⟨nb, 10, none⟩ = some (.slice fa x.fates.length fc) ∧ W.cell? ⟨nb, 11, none⟩ = some (.string x.name) := fun W hW => by
          have h := heap_below hW hbc
          exact ⟨cells_of h 0 _ rfl, cells_of h 1 _ rfl, cells_of h 2 _ rfl, cells_of h 3 _ rfl, cells_of h 4 _ rfl, cells_of h 5 _ rfl, cells_of h 6 _ rfl, cells_of h 7 _ rfl, cells_of h 8 _ rfl, cells_of h 9 _ rfl, cells_of h 10 _ rfl, cells_of h 11 _ rfl⟩
        have HEN := Lib.hid hen
        have HNX := Lib.hid hnx
        have HK := Lib.hid hk12
        have HX := Lib.hid (And.intro hbx hev)
        obtain ⟨k0, k1, k2, k3, k4, k5, k6, k7, k8, k9, k10, k11⟩ := HK.out wx (Below.refl _ _)
        clear hwx hnb hbx hbc hen hnx hk12 hev HRR q0 q1 q2 q3 q4 q5 q6 q7 q8 q9 q10 q11
        go_cut [12] from 45 to 48 (fun v12 wc => ∃ (yb : Nat) (va : Option Addr) (vc : Nat), v12 = .pointer (some ⟨yb, 0, none⟩) ∧ wc.heap[yb]? = some (.cells #[.int .i64 ev, .int .i64 x.b.count, .int .i64 x.b.prod, .int .i64 x.b.seq, .int .i64 x.b.time, .slice va x.b.recs.length vc] 40 (0, 0)) ∧ wx.heap.size ≤ yb ∧ wc.ownsRow wx.heap.size 84 4 (.slice va x.b.recs.length vc) x.b.recs.length (recCells (nextB x.b ev).recs) ∧ Below wx.heap.size wx wc)
        case first =>
          have ka := fun o => HK.out (wx.alloc o) (below_alloc wx o)
          have ka0 := fun o => (ka o).1
          have ka1 := fun o => (ka o).2.1
          have ka2 := fun o => (ka o).2.2.1
          have ka3 := fun o => (ka o).2.2.2.1
          have ka4 := fun o => (ka o).2.2.2.2.1
          have ka5 := fun o => (ka o).2.2.2.2.2.1
          have ka6 := fun o => (ka o).2.2.2.2.2.2.1
          have ka7 := fun o => (ka o).2.2.2.2.2.2.2.1
          have ka8 := fun o => (ka o).2.2.2.2.2.2.2.2.1
          have ka9 := fun o => (ka o).2.2.2.2.2.2.2.2.2.1
          have ka10 := fun o => (ka o).2.2.2.2.2.2.2.2.2.2.1
          have ka11 := fun o => (ka o).2.2.2.2.2.2.2.2.2.2.2
          clear ka
          have hdA : Below wx.heap.size wx ((wx.alloc (.cells #[.int .i64 0, .int .i64 0, .int .i64 0, .int .i64 0, .int .i64 0, .slice none 0 0] 40)).drew) := (below_alloc wx _).drew
          have hzA : ((wx.alloc (.cells #[.int .i64 0, .int .i64 0, .int .i64 0, .int .i64 0, .int .i64 0, .slice none 0 0] 40)).drew).heap[wx.heap.size]? = some (.cells #[.int .i64 0, .int .i64 0, .int .i64 0, .int .i64 0, .int .i64 0, .slice none 0 0] 40 (0, 0)) := heap_alloc_new wx _
          have hdB : Below wx.heap.size wx wx.drew := (Below.refl _ _).drew
          go_region_with (first
              | (go_at_call 32; with_reducible refine (HEN.out _ hdB).mono ?_; rintro _ w6 ⟨rfl, h6, hl6⟩; obtain ⟨k0, k1, k2, k3, k4, k5, k6, k7, k8, k9, k10, k11⟩ := HK.out w6 h6; have kb := fun o => HK.out (w6.alloc o) (h6.alloc h6.size o); have kb0 := fun o => (kb o).1; have kb1 := fun o => (kb o).2.1; have kb2 := fun o => (kb o).2.2.1; have kb3 := fun o => (kb o).2.2.2.1; have kb4 := fun o => (kb o).2.2.2.2.1; have kb5 := fun o => (kb o).2.2.2.2.2.1; have kb6 := fun o => (kb o).2.2.2.2.2.2.1; have kb7 := fun o => (kb o).2.2.2.2.2.2.2.1; have kb8 := fun o => (kb o).2.2.2.2.2.2.2.2.1; have kb9 := fun o => (kb o).2.2.2.2.2.2.2.2.2.1; have kb10 := fun o => (kb o).2.2.2.2.2.2.2.2.2.2.1; have kb11 := fun o => (kb o).2.2.2.2.2.2.2.2.2.2.2; clear kb)
              | (go_at_call 32; refine (HEN.out _ hdA).mono ?_; rintro _ w6 ⟨rfl, h6, hl6⟩; obtain ⟨k0, k1, k2, k3, k4, k5, k6, k7, k8, k9, k10, k11⟩ := HK.out w6 h6; have hz6 : w6.heap[wx.heap.size]? = some (.cells #[.int .i64 0, .int .i64 0, .int .i64 0, .int .i64 0, .int .i64 0, .slice none 0 0] 40 (0, 0)) := heap_below hl6 hzA)
              | (go_at_call 31; have hg := hz6; refine (HNX.out _ ?_).mono ?_; with_reducible exact h6; rintro _ w7 ⟨va, vc, rfl, ho7, h7, hl7⟩; have hz7 : w7.heap[wx.heap.size]? = some (.cells #[.int .i64 0, .int .i64 0, .int .i64 0, .int .i64 0, .int .i64 0, .slice none 0 0] 40 (0, 0)) := heap_below hl7 hz6; obtain ⟨y0, y1, y2, y3, y4, y5, v0, v1, v2, v3, v4, v5⟩ := zero6 hz7)
              | (go_at_call 31; have hg := h6; refine (HNX.out _ ?_).mono ?_; with_reducible exact h6.alloc h6.size _; rintro _ w7 ⟨va, vc, rfl, ho7, h7, hl7⟩; have hz7 : w7.heap[w6.heap.size]? = some (.cells #[.int .i64 0, .int .i64 0, .int .i64 0, .int .i64 0, .int .i64 0, .slice none 0 0] 40 (0, 0)) := heap_below hl7 (heap_alloc_new w6 _); obtain ⟨y0, y1, y2, y3, y4, y5, v0, v1, v2, v3, v4, v5⟩ := zero6 hz7)
              | (go_at_call 31; have hg := h6; refine (HNX.out _ ?_).mono ?_; with_reducible exact h6; rintro _ w7 ⟨va, vc, rfl, ho7, h7, hl7⟩))
          all_goals
            go_wp2_with fail
            go_meet
            first
              | (refine ⟨_, va, vc, rfl, ?_, ?_, ?_, ?_⟩
                 with_reducible exact heap_alloc_new w7 _
                 with_reducible exact h7.size
                 exact ho7.alloc _
                 exact h7.alloc h7.size _)
              | (have hkd : ∀ q, (Value.slice va x.b.recs.length vc).ownBlock = some q → ∀ k, w7.heap[k]? = some (.cells #[.int .i64 0, .int .i64 0, .int .i64 0, .int .i64 0, .int .i64 0, .slice none 0 0] 40 (0, 0)) → ¬ q = k := fun q hq k hk e => (by
                  obtain ⟨cur, hc⟩ := owns_kind3 ho7 q hq
                  rw [e, hk] at hc
                  simp at hc)
                 obtain ⟨s1, s2⟩ := set6 hz7 (.int .i64 ev) (.int .i64 x.b.count) (.int .i64 x.b.prod) (.int .i64 x.b.seq) (.int .i64 x.b.time) (.slice va x.b.recs.length vc)
                 have s3 := owns_upd ho7 s2 (fun q hq e => hkd q hq _ hz7 e)
                 first
                   | (have s4 := h7.trans (s2.toBelow h7.size (fun k e => by have := h6.size; omega))
                      refine ⟨_, va, vc, rfl, ?_, ?_, ?_, ?_⟩
                      with_reducible exact s1
                      with_reducible exact h6.size
                      with_reducible exact s3
                      with_reducible exact s4)
                   | (have s4 := h7.trans (s2.toBelow h7.size (fun k e => by omega))
                      refine ⟨_, va, vc, rfl, ?_, ?_, ?_, ?_⟩
                      with_reducible exact s1
                      with_reducible exact Nat.le_refl _
                      with_reducible exact s3
                      with_reducible exact s4))
        case rest =>
          obtain ⟨yb, va, vc, rfl, hy, hyb, hor, hbc⟩ := hcut
          clear k0 k1 k2 k3 k4 k5 k6 k7 k8 k9 k10 k11 HK HEN HNX
          obtain ⟨hd5, hlin, hal5, hsl5, how5, hown5⟩ := H5.out
          have hb5c : Below wr.heap.size wr wc := HX.out.1.trans (hbc.mono HX.out.1.size)
          have hdc := hd5.below hb5c
          have hapl := appS_lin (t := t5) hlin (nextB x.b ev)
          have hapn := appS_segs (t := t5) (x := x5) (nextB x.b ev)
          have hap := StAppend_any H1.out.1 hdc (B := nextB x.b ev) (rcs_of_owns hor (by simp [nextB])) (by omega)
          obtain ⟨r6, hr6⟩ : ∃ r6, appS t5 x5 (nextB x.b ev) = r6 := ⟨_, rfl⟩
          rw [hr6] at hap hapl hapn
          obtain ⟨t6, x6, c6⟩ := r6
          simp only at hapl hapn
          simp only [Batch.v] at hap
          rw [show (nextB x.b ev).base = ev from rfl, show (nextB x.b ev).count = x.b.count from rfl, show (nextB x.b ev).prod = x.b.prod from rfl, show (nextB x.b ev).seq = x.b.seq from rfl, show (nextB x.b ev).time = x.b.time from rfl] at hap
          obtain ⟨y0, y1, y2, y3, y4, y5⟩ : wc.cell? ⟨yb, 0, none⟩ = some (.int .i64 ev) ∧ wc.cell? ⟨yb, 1, none⟩ = some (.int .i64 x.b.count) ∧ wc.cell? ⟨yb, 2, none⟩ = some (.int .i64 x.b.prod) ∧ wc.cell? ⟨yb, 3, none⟩ = some (.int .i64 x.b.seq) ∧ wc.cell? ⟨yb, 4, none⟩ = some (.int .i64 x.b.time) ∧ wc.cell? ⟨yb, 5, none⟩ = some (.slice va x.b.recs.length vc) := ⟨cells_of hy 0 _ rfl, cells_of hy 1 _ rfl, cells_of hy 2 _ rfl, cells_of hy 3 _ rfl, cells_of hy 4 _ rfl, cells_of hy 5 _ rfl⟩
          have HAP := Lib.hid hap
          have HAL := Lib.hid (And.intro hapl hapn)
          have HC := Lib.hid (And.intro hy (And.intro hyb (And.intro hor (And.intro hb5c (And.intro hbc HX.out.1.size)))))
          clear hap hapl hapn hy hyb hor hb5c hbc hdc hd5 hlin hal5 hsl5 how5 hown5 hr6
          go_wp2_with fail
          refine HAP.out.mono ?_
          rintro e wd ⟨S6, L6, rfl, hd6, hu6, hS6, hL6⟩
          simp only at hd6
          obtain ⟨hd5, hlin, hal5, hsl5, how5, hown5⟩ := H5.out
          obtain ⟨hy, hyb, hor, hb5c, hbc, hzx⟩ := HC.out
          obtain ⟨⟨hlin6, hok6, hno6⟩, hsl6⟩ := HAL.out
          have hltS : ∀ k, SdF S5 b mb L5 k → k < wr.heap.size := hd5.lt
          have hz5 := hb5c.size
          have hwant : wd.ownsRow w2.heap.size 84 4 (.slice wa (recsB (allB x5.segs)).length wc5) (recsB (allB x5.segs)).length (recCells (recsB (allB x5.segs))) := owns_upd (owns_upd how5 (Upd.of_below (F := fun _ => False) hb5c) (fun _ _ h => h)) hu6 (fun g hg hf => hf.elim (hown5 g hg).1 (hown5 g hg).2)
          have hwg : ∀ g, (Value.slice wa (recsB (allB x5.segs)).length wc5).ownBlock = some g → ¬ S6 g ∧ ¬ TpF b mb L6 g ∧ w2.heap.size ≤ g := fun g hg => by
            have h1 := owns_lt how5 g hg
            refine ⟨fun hs => ?_, fun hs => ?_, h1.1⟩
            · rcases hS6 g hs with h | h
              · exact (hown5 g hg).1 h
              · omega
            · rcases TpF.new hL6 g hs with h | h
              · exact (hown5 g hg).2 h
              · omega
          by_cases hc0 : c6 = 0
          · subst hc0
            obtain ⟨hal6, hg6, hbs6⟩ := hok6 rfl
            have hrec : wd.ownsRow wx.heap.size 84 4 (.slice va x.b.recs.length vc) x.b.recs.length (recCells (nextB x.b ev).recs) := owns_upd hor hu6 (fun g hg hf => by have h1 := (owns_lt hor g hg).1; have h2 := hltS g hf; omega)
            have hyd : wd.heap[yb]? = some (.cells #[.int .i64 ev, .int .i64 x.b.count, .int .i64 x.b.prod, .int .i64 x.b.seq, .int .i64 x.b.time, .slice va x.b.recs.length vc] 40 (0, 0)) := (hu6.block _ (Array.getElem?_eq_some_iff.1 hy).1 (fun hf => by have h2 := hltS yb hf; omega)).trans hy
            have y5 : wd.cell? ⟨yb, 5, none⟩ = some (.slice va x.b.recs.length vc) := cells_of hyd 5 _ rfl
            have hrl : (recsB (allB x5.segs)).length ≤ 480 := by
              obtain ⟨n, -, hch⟩ := hlin
              have := recsB_len (hch.chained.good)
              omega
            have hrd : Rd wd 4 (.slice va x.b.recs.length vc) x.b.recs.length (recCells (nextB x.b ev).recs) := (Sl.of_owns hrec).rd
            have hfin : ∀ a' c' w7, w7.ownsRow w2.heap.size 84 4 (.slice a' ((recsB (allB x5.segs)).length + x.b.recs.length) c') ((recsB (allB x5.segs)).length + x.b.recs.length) (recCells (recsB (allB x5.segs)) ++ recCells (nextB x.b ev).recs) → wd.grownBy w7 (Value.slice wa (recsB (allB x5.segs)).length wc5).ownBlock →
                ((Value.slice a' ((recsB (allB x5.segs)).length + x.b.recs.length) c').ownBlock = (Value.slice wa (recsB (allB x5.segs)).length wc5).ownBlock ∨ (Value.slice a' ((recsB (allB x5.segs)).length + x.b.recs.length) c').ownBlock = some wd.heap.size) → RoR w2 sb b mb (i + 1) (.slice a' ((recsB (allB x5.segs)).length + x.b.recs.length) c') w7 := by
              intro a' c' w7 h1 h2 h3
              have hu7 := upd_grown h2
              have he : recsB (allB x6.segs) = recsB (allB x5.segs) ++ (nextB x.b ev).recs := by rw [hal6]; simp [recsB]
              refine ⟨L6, S6, x6, t6, hd6.other hu7 (fun k hk => hwg k hk.symm), hlin6, by rw [hal6, List.length_append]; simp; omega, by omega, ?_, ?_⟩
              · rw [he, List.length_append, show (nextB x.b ev).recs.length = x.b.recs.length from by simp [nextB]]
                have e2 : recCells (recsB (allB x5.segs) ++ (nextB x.b ev).recs) = recCells (recsB (allB x5.segs)) ++ recCells (nextB x.b ev).recs := by simp [recCells]
                rw [e2]
                exact h1
              · intro g hg
                rcases h3 with h3 | h3
                · rw [h3] at hg
                  exact ⟨(hwg g hg).1, (hwg g hg).2.1⟩
                · rw [h3] at hg
                  simp only [Option.some.injEq] at hg
                  subst hg
                  exact ⟨fun hs => by have := hd6.st.lt _ hs; omega, fun hs => by have := hd6.tp.fLt _ hs; omega⟩
            have HF := Lib.hid hfin
            have HW := Lib.hid (And.intro hwant (And.intro hrd hd6.base.size))
            have hrl2 : ((recsB (allB x5.segs)).length + x.b.recs.length) ≤ 500 := by omega
            clear hfin hwant hrd hyd hrec hwg hltS hd6 hu6 hS6 hL6 hd5 hlin hal5 hsl5 how5 hown5 hy hyb hor hb5c hbc hzx hlin6 hok6 hno6 hsl6 hal6 hg6 hbs6 hz5 HAP HAL HC H5
            obtain ⟨i0, hi7, hz0, hz1, hz2⟩ := info_parts info_Rec4
            go_wp2_with (first | (at_builtin; refine wpList_append_any rfl _ _ 38 rfl w2.heap.size 84 i0 _ 4 48 und_Recs4 hi7 hz0 hz1 hz2 rfl (by decide) (.slice wa (recsB (allB x5.segs)).length wc5) (recsB (allB x5.segs)).length (recCells (recsB (allB x5.segs))) rfl HW.out.1 (.slice va x.b.recs.length vc) x.b.recs.length (recCells (nextB x.b ev).recs) rfl HW.out.2.1 (one_recs _) (by unfold maxLen; omega) (by omega) HW.out.2.2 ?_; intro a7 c7 w7 hown7 hgrow7 hat7; have HG := Lib.hid (HF.out _ _ _ hown7 hgrow7 hat7); clear hown7 hgrow7 hat7))
            go_roundg (A.length - (i + 1))
            case measure => omega
            case rel => exact ⟨i + 1, by omega, by omega, rfl, by go_num, HG.out⟩
          · have hc1 : (c6 == 0) = false := by simpa using hc0
            have hsg := hno6 hc0
            have hrel : RoR w2 sb b mb (i + 1) (.slice wa (recsB (allB x5.segs)).length wc5) wd := ⟨L6, S6, x6, t6, hd6, hlin6, by rw [hsg]; omega, by rw [hsg]; omega, by rw [hsg]; exact hwant, fun g hg => ⟨(hwg g hg).1, (hwg g hg).2.1⟩⟩
            have HREL := Lib.hid hrel
            clear hrel hwant hwg hltS hd6 hu6 hS6 hL6 hd5 hlin hal5 hsl5 how5 hown5 hy hyb hor hb5c hbc hzx hlin6 hok6 hno6 hsl6 hz5 HAP HAL HC H5 hc0 hsg
            go_wp2_with fail
            go_roundg (A.length - (i + 1))
            case measure => omega
            case rel => exact ⟨i + 1, by omega, by omega, rfl, by go_num, HREL.out⟩
      · have H5 := Lib.hid hro
        obtain ⟨-, -, x50, -, -, -, -, -, how50, -⟩ := hro
        obtain ⟨wa, wc5, rfl, -⟩ := (Sl.of_owns how50).shape
        obtain ⟨rl, hrl⟩ : ∃ rl, (recsB (allB x50.segs)).length = rl := ⟨_, rfl⟩
        rw [hrl] at H5
        rw [hrl]
        clear how50 hrl
        go_upto_region 10 with fail
        go_cut [37] from 30 to 36 (fun v37 wc => v37 = .bool false ∧ wc = wr)
        case first =>
          by_cases hit : i < A.length
          · have j1 : (i : Int) < (A.length : Int) := by omega
            have j2 : ¬ (i : Int) < 60 := by omega
            go_wp2_with fail
            go_meet
            exact ⟨rfl, rfl⟩
          · have j1 : ¬ (i : Int) < (A.length : Int) := by omega
            go_wp2_with fail
            go_meet
            exact ⟨rfl, rfl⟩
        case rest =>
          obtain ⟨rfl, hwc⟩ := hcut
          subst hwc
          obtain ⟨st0, hst0, hst9⟩ := u64_mod7 step 9 (by omega)
          have w1 : wrap64 (st0 : Int) = st0 := IntWalk.wrap64_in _ (by omega)
          have w2x : wrap64 (1 + (st0 : Int)) = ((st0 + 1 : Nat) : Int) := by rw [IntWalk.wrap64_in _ (by omega)]; omega
          obtain ⟨st, hst⟩ : ∃ st, st = st0 + 1 := ⟨_, rfl⟩
          have hsx : wrap64 (1 + wrap64 ((IntKind.u64.wrap step).tmod 9)) = (st : Int) := by rw [hst0, w1, w2x, hst]
          have hst1 : 1 ≤ st ∧ st ≤ 9 := by omega
          clear hst0 hst9 w1 w2x hst
          go_upto_region 19 with fail
          rw [hsx]
          clear hsx
          obtain ⟨w5, hw5⟩ : ∃ w5, w5 = wc.alloc (.cells #[] 84) := ⟨_, rfl⟩
          obtain ⟨gb, hgb⟩ : ∃ gb, wc.heap.size = gb := ⟨_, rfl⟩
          obtain ⟨L5, S5, x5, t5, hd5, hlin, hal5, hsl5, how5, hown5⟩ := H5.out
          obtain ⟨R, hR⟩ : ∃ R, recsB (allB x5.segs) = R := ⟨_, rfl⟩
          rw [hR] at how5
          have hrl : rl = R.length := by
            have h1 := how5.1
            have h2 := (Sl.of_owns how5).shape
            obtain ⟨a', c', e, -⟩ := h2
            simp only [Value.slice.injEq] at e
            exact e.2.1
          subst hrl
          have hb5 : Below wc.heap.size wc w5 := by rw [hw5]; exact below_alloc _ _
          have hR480 : R.length ≤ 480 := by
            obtain ⟨n, -, hch⟩ := hlin
            have := recsB_len (hch.chained.good)
            rw [hR] at this
            omega
          have hst : Ro2 w2 sb b mb L5 S5 x5 t5 R wa wc5 0 (.slice (some ⟨gb, 0, none⟩) 0 0) w5 := by
            have hwl := fun g hg => (owns_lt how5 g hg)
            refine ⟨hd5.below hb5, owns_upd how5 (Upd.of_below (F := fun _ => False) hb5) (fun _ _ h => h), hown5, ?_, ?_⟩
            · rw [hw5, ← hgb]
              exact World.ownsRow_made wc #[] 0 hd5.base.size (Nat.zero_le _) rfl
            · intro g hg
              simp only [Value.ownBlock, Option.some.injEq] at hg
              subst hg
              exact ⟨fun hs => by have := hd5.st.lt _ hs; omega, fun hs => by have := hd5.tp.fLt _ hs; omega, fun e => by have := (hwl _ e).2; omega⟩
          have hsm5 : (∀ g ∈ x5.segs, g.list.length ≤ 60) ∧ x5.segs.length ≤ 60 := by
            refine ⟨fun g hg => ?_, by omega⟩
            have := mem_allB hg
            omega
          rw [← hw5, hgb]
          have HST := Lib.hid hst
          have HLN := Lib.hid (And.intro hlin (And.intro hR hsm5))
          clear hst hw5 hgb hd5 hlin hal5 hsl5 how5 hown5 hb5 H5 hR hsm5
          go_wp2_with fail
          go_loopg [13, 14, 15] 600 (fun gk v13 v14 v15 wr => ∃ (i k : Nat) (off : Int), i ≤ k ∧ k ≤ R.length ∧ gk = 600 - i ∧ v15 = .int .i64 i ∧ v14 = .int .i64 off ∧ OffK R k off ∧ Ro2 w2 sb b mb L5 S5 x5 t5 R wa wc5 k v13 wr)
          case atStart => exact ⟨0, 0, 0, Nat.le_refl _, Nat.zero_le _, rfl, rfl, rfl, .inl ⟨rfl, rfl⟩, HST.out⟩
          case round =>
            obtain ⟨i2, k, off, hik, hkR, rfl, rfl, rfl, hoff, hr2⟩ := hrel
            have i600 : (i2 : Int) < 600 := by omega
            obtain ⟨gv, m, D, hin⟩ := hr2.sd.st
            obtain ⟨⟨n0, hn0, hch⟩, hR, hs60, hl60⟩ := HLN.out
            have hrd := StRead_any hin hr2.sd.ok (by omega) (fun g hg => by have := hs60 g hg; omega) (by rw [hR]; omega) off (st : Int)
            have hra := readF_at hch hn0 (by rw [hR]; exact hoff) (st : Int)
            rw [hR, Int.toNat_natCast] at hra
            rw [hra] at hrd
            obtain ⟨l, hl⟩ : ∃ l, (R.drop k).take st = l := ⟨_, rfl⟩
            rw [hl] at hrd
            have hllen : l.length = min st (R.length - k) := by rw [← hl]; simp
            have hoffs : ∀ z ∈ l, 0 ≤ z.off ∧ z.off ≤ 1099511627776 := by
              intro z hz
              rw [← hl] at hz
              have hz2 : z ∈ R := List.mem_of_mem_drop (List.mem_of_mem_take hz)
              have h1 := chained_rise hch.chained
              rw [hR] at h1
              have h2 := h1.ge z hz2
              have h3 : endL n0 (allB x5.segs) ≤ 1099511627776 := by
                by_cases he : x5.segs = []
                · rw [he] at h1 h2 hR
                  simp only [allB, List.flatMap_nil, recsB] at hR
                  subst hR
                  cases hz2
                · have h4 := hch
                  have h5 : n0 ≤ 1099511627776 := by
                    cases hxs : x5.segs with
                    | nil => exact absurd hxs he
                    | cons g0 s0 =>
                      rw [hxs] at h4
                      have := hr2.sd.ok.segs g0 (by rw [hxs]; simp)
                      have := h4.1
                      omega
                  exact (hch.chained.end ⟨hn0, h5⟩).2
              omega
            have HRD := Lib.hid hrd
            have HO := Lib.hid (And.intro hoff (And.intro hl (And.intro hllen hoffs)))
            obtain ⟨oa, oc, hgs, -⟩ := (Sl.of_owns hr2.got).shape
            subst hgs
            have HR2 := Lib.hid hr2
            clear hrd hra hin hoff hl hllen hoffs hr2 hR hs60 hl60 hch hn0
            have htk : (R.take k).length = k := by simp; omega
            rw [htk] at HR2 ⊢
            go_wp2_with fail
            refine HRD.out.mono ?_
            rintro e w6 ⟨lv, rfl, hlo, hb6⟩
            obtain ⟨la, lc, rfl, -⟩ := (Sl.of_owns hlo).shape
            obtain ⟨hoff, hl, hllen, hoffs⟩ := HO.out
            by_cases hl0 : l.length = 0
            · have hkk : k = R.length := by omega
              subst hkk
              have hl1 : ((l.length : Int) == 0) = true := by simp [hl0]
              have hgr : RcsRd w6 (.slice oa R.length oc) R := by
                have h1 := owns_upd HR2.out.got (Upd.of_below (F := fun _ => False) hb6) (fun _ _ h => h)
                rw [List.take_length] at h1
                exact (Sl.of_owns h1).rd
              have hwr : RcsRd w6 (.slice wa R.length wc5) R := (Sl.of_owns (owns_upd HR2.out.want (Upd.of_below (F := fun _ => False) hb6) (fun _ _ h => h))).rd
              have hb06 : Below w.heap.size w w6 := (H1.out.2.2.trans (HR2.out.sd.base.mono H1.out.2.2.size)).trans (hb6.mono (H1.out.2.2.trans (HR2.out.sd.base.mono H1.out.2.2.size)).size)
              have HRS := Lib.hid (Recs7_same hgr hwr)
              have HB6 := Lib.hid hb06
              clear hgr hwr hb06 hlo hb6 hoff hl hllen hoffs HRD HO HR2 HLN hl0 htk
              go_wp2_with fail
              refine HRS.out.mono ?_
              rintro e w8 ⟨rfl, hb8⟩
              have HB8 := Lib.hid (HB6.out.trans (hb8.mono HB6.out.size))
              clear hb8 HRS HB6
              go_wp2_with fail
              refine (StAppend_nil _).mono ?_
              rintro e w9 ⟨rfl, hb9⟩
              have HB9 := Lib.hid (HB8.out.trans (hb9.mono HB8.out.size))
              clear hb9 HB8
              go_wp2_with fail
              refine (StSync_nil _).mono ?_
              rintro e w10 ⟨rfl, hw10⟩
              subst hw10
              go_wp2_with fail
              refine (StEnd_nil _).mono ?_
              rintro e w10 ⟨rfl, hw10⟩
              subst hw10
              go_wp2_with fail
              refine (StBases_nil _).mono ?_
              rintro e w10 ⟨rfl, hw10⟩
              subst hw10
              go_wp2_with fail
              refine (StRead_nil _ _ _).mono ?_
              rintro e w11 ⟨nv, rfl, hno, hb11⟩
              obtain ⟨na, nc, rfl, -⟩ := (Sl.of_owns hno).shape
              have HB11 := Lib.hid (HB9.out.trans (hb11.mono HB9.out.size))
              clear hno hb11 HB9
              simp only [List.length_nil]
              go_wp2_with fail
              go_ret
              exact ⟨rfl, HB11.out⟩
            · have hl1 : ((l.length : Int) == 0) = false := by simpa using hl0
              have hl2 : ¬ (st : Int) < (l.length : Int) := by omega
              have hm1 : wrap64 ((l.length : Int) - 1) = ((l.length - 1 : Nat) : Int) := by rw [IntWalk.wrap64_in _ (by omega)]; omega
              obtain ⟨y, hy⟩ : ∃ y, l[l.length - 1]'(by omega) = y := ⟨_, rfl⟩
              have hyo := hoffs y (by rw [← hy]; exact List.getElem_mem _)
              have hm2 : wrap64 (y.off + 1) = y.off + 1 := IntWalk.wrap64_in _ (by omega)
              have hnext : OffK R (k + l.length) (y.off + 1) := by
                have := OffK.next (R := R) (k := k) (m := st) hst1.1 (y := y) (by rw [hl, List.getLast?_eq_getElem?, List.getElem?_eq_getElem (by omega), hy])
                rw [hl] at this
                exact this
              have htake : R.take k ++ l = R.take (k + l.length) := by
                have := OffK.take (R := R) (k := k) (m := st)
                rw [hl] at this
                exact this
              obtain ⟨lb, lo, lcap, elv, -, -, hlbl, hlc⟩ := Rd.at (Sl.of_owns hlo).rd (by omega)
              simp only [Value.slice.injEq, true_and] at elv
              obtain ⟨rfl, -⟩ := elv
              have hw7 : w6.ownsRow w2.heap.size 84 4 (.slice oa k oc) k (recCells (R.take k)) := by
                have h1 := owns_upd HR2.out.got (Upd.of_below (F := fun _ => False) hb6) (fun _ _ h => h)
                rw [htk] at h1
                exact h1
              have hgo : ∀ g, (Value.slice oa k oc).ownBlock = some g → ¬ S5 g ∧ ¬ TpF b mb L5 g ∧ (Value.slice wa R.length wc5).ownBlock ≠ some g := HR2.out.gown
              have hsd6 := HR2.out.sd.below hb6
              have hwa6 := owns_upd HR2.out.want (Upd.of_below (F := fun _ => False) hb6) (fun _ _ h => h)
              have hlow := owns_lt hlo
              have hwlt := owns_lt HR2.out.want
              have hfin : ∀ a' c' w7, w7.ownsRow w2.heap.size 84 4 (.slice a' (k + l.length) c') (k + l.length) (recCells (R.take k) ++ recCells l) → w6.grownBy w7 (Value.slice oa k oc).ownBlock →
                  ((Value.slice a' (k + l.length) c').ownBlock = (Value.slice oa k oc).ownBlock ∨ (Value.slice a' (k + l.length) c').ownBlock = some w6.heap.size) →
                  w7.cell? ⟨lb, lo + (l.length - 1) * 4, none⟩ = some (.int .i64 y.off) ∧ Ro2 w2 sb b mb L5 S5 x5 t5 R wa wc5 (k + l.length) (.slice a' (k + l.length) c') w7 := by
                intro a' c' w7 h1 h2 h3
                have hu7 := upd_grown h2
                have hgl : ∀ g, (Value.slice oa k oc).ownBlock = some g → g < wr.heap.size := fun g hg => (owns_lt HR2.out.got g hg).2
                have hlo7 := owns_upd hlo hu7 (fun g hg e => by have h4 := (hlow g hg).1; have h5 := hgl g e.symm; omega)
                obtain ⟨lb', lo', lcap', elv', -, -, -, hlc'⟩ := Rd.at (Sl.of_owns hlo7).rd (by omega)
                simp only [Value.slice.injEq, Option.some.injEq, Addr.mk.injEq, and_true, true_and] at elv'
                obtain ⟨⟨rfl, rfl⟩, -⟩ := elv'
                have hcy := hlc' ((l.length - 1) * 4) _ ((recCells_get l (l.length - 1) (by omega)).1)
                rw [hy] at hcy
                refine ⟨hcy, hsd6.other hu7 (fun q hq => ⟨(hgo q hq.symm).1, (hgo q hq.symm).2.1, (owns_lt hw7 q hq.symm).1⟩), owns_upd hwa6 hu7 (fun g hg e => (hgo g e.symm).2.2 hg), HR2.out.wown, ?_, ?_⟩
                · rw [← htake, List.length_append, htk]
                  have e2 : recCells (R.take k ++ l) = recCells (R.take k) ++ recCells l := by simp [recCells]
                  rw [e2]
                  exact h1
                · intro g hg
                  rcases h3 with h3 | h3
                  · rw [h3] at hg
                    exact hgo g hg
                  · rw [h3] at hg
                    simp only [Option.some.injEq] at hg
                    subst hg
                    exact ⟨fun hs => by have := hsd6.st.lt _ hs; omega, fun hs => by have := hsd6.tp.fLt _ hs; omega, fun e => by have := (hwlt _ e).2; have := hb6.size; omega⟩
              have hrdl : Rd w6 4 (.slice (some ⟨lb, lo, none⟩) l.length lc) l.length (recCells l) := (Sl.of_owns hlo).rd
              have hlle : l.length ≤ 9 := by omega
              have hkl : k + l.length ≤ R.length := by omega
              have HF := Lib.hid hfin
              have HW := Lib.hid (And.intro hw7 (And.intro hrdl hsd6.base.size))
              have HN := Lib.hid hnext
              have t1 : (0 : Int) ≤ ((l.length - 1 : Nat) : Int) := by omega
              have t2 : ((l.length - 1 : Nat) : Int) < (l.length : Int) := by omega
              have hkb : k ≤ 480 := by omega
              clear hfin hw7 hgo hsd6 hwa6 hlow hwlt hrdl hnext htake hlc hlbl hlo hb6 hoff hl hllen hoffs HRD HO HR2 HLN hl0 hy htk
              obtain ⟨i0, hi7, hz0, hz1, hz2⟩ := info_parts info_Rec4
              go_wp2_with (first | (at_builtin; refine wpList_append_any rfl _ _ 38 rfl w2.heap.size 84 i0 _ 4 48 und_Recs4 hi7 hz0 hz1 hz2 rfl (by decide) (.slice oa k oc) k (recCells (R.take k)) rfl HW.out.1 (.slice (some ⟨lb, lo, none⟩) l.length lc) l.length (recCells l) rfl HW.out.2.1 (one_recs _) (by unfold maxLen; omega) (by omega) HW.out.2.2 ?_; intro a7 c7 w7 hown7 hgrow7 hat7; obtain ⟨cy, hf7⟩ := HF.out _ _ _ hown7 hgrow7 hat7; have HG := Lib.hid hf7; clear hf7 hown7 hgrow7 hat7))
              go_roundg (600 - (i2 + 1))
              case measure => omega
              case rel => exact ⟨i2 + 1, k + l.length, y.off + 1, by omega, hkl, rfl, by go_num, rfl, HN.out, HG.out⟩
end Go.Proofs.YtcpaaleogmiamaaGreatDoor
