/- The walk of helm.load. -/
import Derived.Test.YtcpaaleogmiamaaGreatDoorMq32
import Derived.Test.YtcpaaleogmiamaaGreatDoorMq33
import Derived.ScopeJumps
import Derived.WalkMore
namespace Go.Proofs.YtcpaaleogmiamaaGreatDoor
open Go.RowKit

theorem wp_scope_back {P : Program} {a : Act} {w : World} {Q : Exit → Act → World → Prop} {c X : Code} (l : Nat) (J : Act → World → Prop) (μ : Act → World → Nat) (hf : findLabel c l = some (Code.skip.seq X))
    (hc : ∀ Q', X.wp P Q' a w → c.wp P Q' a w) (h0 : J a w)
    (pass : ∀ a w, J a w → X.wp P (Exit.jump l (fun a' w' => J a' w' ∧ μ a' w' < μ a w) Q) a w) : (Code.scope c).wp P Q a w :=
  wp_scope_jumps l J μ hf (hc _ (Code.wp_mono (fun e a' w' h => by
    cases e with
    | goto l' => exact ⟨h.1, h.2.1⟩
    | _ => exact h) (pass a w h0))) (fun a w hJ => wp_seq (wp_skip (by simpa [Exit.then] using pass a w hJ)))

/-- The events of a text from a place on, as far as they are right. -/
def loadN : Nat → Pl → List UInt8 → Nat → Pl × Nat
  | 0, p, _, k => (p, k)
  | f + 1, p, s, k =>
    if (nextV s k).2.2 ≠ 0 then (p, k)
    else match decE (nextV s k).1 with
      | none => (p, k)
      | some x => if (applyP p x).2.2 ≠ 0 then (p, k) else loadN f (applyP p x).1 s (nextV s k).2.1

theorem nextV_lt {s : List UInt8} {k : Nat} {y : List UInt8} {n : Nat} (h : nextV s k = (y, n, 0)) : k + 8 ≤ n ∧ n ≤ s.length ∧ y.length ≤ s.length := by
  unfold nextV at h
  split at h
  · simp at h
  · split at h
    · simp at h
    · split at h
      · simp at h
      · split at h
        · simp at h
        · split at h
          · simp at h
          · simp only [Prod.mk.injEq, and_true] at h
            obtain ⟨rfl, rfl⟩ := h
            rename_i h1 h2 h3 h4 h5
            simp only [List.length_drop, List.length_take] at *
            omega

/-- A plan that is read whatever is written in G is followed by one that is. -/
def OffAll (w w' : World) (hb b mb q : Nat) (L : TpL) (v : Value) (p : Pl) (v' : Value) (p' : Pl) : Prop :=
  ∀ G : Nat → Prop, (∀ k, HmF hb b mb q L k → G k) → (∀ k, G k → k < w.heap.size) → PlanOff w G v p → PlanOff w' G v' p'
def LoadedTo (w0 w : World) (hb b mb q : Nat) (L : TpL) (t : Tp) (v : Value) (p : Pl) (M : List (Int × Int)) (life : Int) (dead : Bool) (r : Pl × Nat) (e : Ending) (w' : World) : Prop :=
  e = .returned (.int .i64 (r.2 : Int)) ∧ ∃ v', HmW w0 w' hb b mb q L t v' r.1 M life dead ∧ Upd (fun k => k = hb) w w' ∧ OffAll w w' hb b mb q L v p v' r.1

set_option maxRecDepth 100000 in
set_option maxHeartbeats 4000000 in
theorem Hload_any {w0 w : World} {hb b mb q : Nat} {L : TpL} {t : Tp} {v : Value} {p : Pl} {M : List (Int × Int)} {life : Int} {dead : Bool} (hE : Env w0) (h : HmW w0 w hb b mb q L t v p M life dead) (s : List UInt8) (hs : s.length ≤ 140737488355327) :
    Calls Tryz.prog 65 #[.pointer (some ⟨hb, 0, none⟩), .string (bs s)] w (LoadedTo w0 w hb b mb q L t v p M life dead (loadN (s.length + 1) p s 0)) := by
  obtain ⟨R, hR⟩ : ∃ R, loadN (s.length + 1) p s 0 = R := ⟨_, rfl⟩
  rw [hR]
  have H := Lib.hid h
  have HR := Lib.hid hR
  clear h hR
  go_enter Tryz.func65, Tryz.ntmps65
  go_wp2
  refine wp_scope_back 0 (fun a' wt => ∃ (k f : Nat) (v' : Value) (p' : Pl) (u5 u6 u7 u8 u9 u10 u11 u12 u13 u14 u15 u16 u17 u18 u19 u20 u21 u22 u23 u24 u25 u26 u27 u28 u29 u30 u31 u32 u33 u34 u35 u36 u37 u38 u39 u40 u41 u42 u43 u44 u45 u46 : Value), k ≤ s.length ∧ s.length < f + k ∧ loadN f p' s k = R ∧ HmW w0 wt hb b mb q L t v' p' M life dead ∧ (Upd (fun k => k = hb) w wt ∧ OffAll w wt hb b mb q L v p v' p') ∧ a' = { tmps := #[.pointer (some ⟨hb, 0, none⟩), .string (bs s), undef, undef, .int .i64 (k : Int), u5, u6, u7, u8, u9, u10, u11, u12, u13, u14, u15, u16, u17, u18, u19, u20, u21, u22, u23, u24, u25, u26, u27, u28, u29, u30, u31, u32, u33, u34, u35, u36, u37, u38, u39, u40, u41, u42, u43, u44, u45, u46], defers := [] })
    (fun a' _ => match a'.tmps.getD 4 undef with | .int _ k => s.length - k.toNat | _ => 0) rfl ?_ ⟨0, s.length + 1, v, p, _, _, _, _, _, _, _, _, _, _, _, _, _, _, _, _, _, _, _, _, _, _, _, _, _, _, _, _, _, _, _, _, _, _, _, _, _, _, _, _, _, _, Nat.zero_le _, by omega, HR.out, H.out, ⟨Upd.refl _ _, fun _ _ _ h => h⟩, rfl⟩ ?_
  · intro Q' h
    go_wp2
    go_step3
    rename_i K hK
    exact hK _ _ h
  · rintro a' wr ⟨k, f, v', p', u5, u6, u7, u8, u9, u10, u11, u12, u13, u14, u15, u16, u17, u18, u19, u20, u21, u22, u23, u24, u25, u26, u27, u28, u29, u30, u31, u32, u33, u34, u35, u36, u37, u38, u39, u40, u41, u42, u43, u44, u45, u46, hk, hf, hl, hm, hu, rfl⟩
    obtain ⟨f, rfl⟩ : ∃ g, f = g + 1 := ⟨f - 1, by omega⟩
    obtain ⟨y, n, cd, hx⟩ : ∃ y n cd, nextV s k = (y, n, cd) := ⟨_, _, _, rfl⟩
    have hnx : ∀ W, Calls Tryz.prog 132 #[.string (bs s), .int .i64 (k : Int)] W fun e w' => e = .returned (.tuple #[.string (bs y), .int .i64 (n : Int), .int .i64 cd]) ∧ Below W.heap.size W w' := by
      intro W
      have := FrNext_any s (by omega) k (by omega) W
      rw [hx] at this
      exact this
    have HN := Lib.hid hnx
    have hfin : ∀ W, Below wr.heap.size wr W → loadN (f + 1) p' s k = (p', k) → LoadedTo w0 w hb b mb q L t v p M life dead R (.returned (.int .i64 (k : Int))) W := by
      intro W hb' he
      rw [← hl, he]
      exact ⟨rfl, v', hm.below hb', hu.1.trans (Upd.of_below hb'), fun G g1 g2 ho => (hu.2 G g1 g2 ho).below hb'⟩
    have HF := Lib.hid hfin
    have HM := Lib.hid (And.intro hm hu)
    have HL := Lib.hid hl
    clear hnx hfin hm hu hl
    by_cases hcd : cd = 0
    · subst hcd
      obtain ⟨hlt1, hlt2, hyl⟩ := nextV_lt hx
      have hde : ∀ W, Below wr.heap.size wr W → Calls Tryz.prog 133 #[.string (bs y)] W fun e w' => e = .returned (decV (decE y)) ∧ Below W.heap.size W w' :=
        fun W hb' => Decode_any y (by omega) ((HM.out.1.below hb').env hE)
      cases hd : decE y with
      | none =>
        rw [hd] at hde
        have hno : loadN (f + 1) p' s k = (p', k) := by simp only [loadN]; rw [hx]; simp only [ne_eq, not_true_eq_false, if_false]; rw [hd]
        have HNO := Lib.hid hno
        have HD := Lib.hid hde
        clear hno hx hd hde
        go_wp2_with fail
        refine (HN.out _).mono ?_
        rintro _ w1 ⟨rfl, hb1⟩
        go_wp2_with fail
        refine (HD.out _ hb1).mono ?_
        rintro _ w2 ⟨rfl, hb2⟩
        have hb3 := below_trans hb1 hb2
        simp only [decV, Event.zero, Event.v]
        go_wp2
        try simp only [Exit.jump]
        go_ret
        exact HF.out _ (below_trans hb3 (below_alloc _ _)) HNO.out
      | some x =>
        rw [hd] at hde
        have HD := Lib.hid hde
        obtain ⟨q', T, c, hq⟩ : ∃ q' T c, applyP p' x = (q', T, c) := ⟨_, _, _, rfl⟩
        obtain ⟨pv, lv, hv, -⟩ := HM.out.1.hm.cells
        subst hv
        have hAp : ∀ W, Below wr.heap.size wr W → Calls Tryz.prog 24 #[.agg #[.int .i64 p'.nodes, .int .i64 p'.copies, pv, lv], .agg #[.int .i64 x.kind, .int .i64 x.node, .int .i64 x.part, .int .i64 x.n]] W fun e w' =>
            ∃ (pa la ta : Option Addr) (pc lc tc l j m : Nat) (n k : Int), e = .returned (.tuple #[.agg #[.int .i64 n, .int .i64 k, .slice pa l pc, .slice la j lc], .slice ta m tc, .int .i64 c]) ∧
            PlanFrom w' W.heap.size (.agg #[.int .i64 n, .int .i64 k, .slice pa l pc, .slice la j lc]) q' ∧ TurnRd w' (.slice ta m tc) T ∧ m = T.length ∧ Below W.heap.size W w' := by
          intro W hb'
          have := Apply_out (HM.out.1.below hb').hm.plan.rd x
          rw [hq] at this
          exact this
        have hcell : ∀ W, Below wr.heap.size wr W → W.cell? ⟨hb, 1, none⟩ = some (.int .i64 p'.nodes) ∧ W.cell? ⟨hb, 2, none⟩ = some (.int .i64 p'.copies) ∧ W.cell? ⟨hb, 3, none⟩ = some pv ∧ W.cell? ⟨hb, 4, none⟩ = some lv := by
          intro W hb'
          obtain ⟨pv2, lv2, e2, -, c1, c2, c3, c4, -⟩ := (HM.out.1.below hb').hm.cells
          simp only [Value.agg.injEq, Array.mk.injEq, List.cons.injEq, and_true, true_and] at e2
          obtain ⟨rfl, rfl⟩ := e2
          exact ⟨c1, c2, c3, c4⟩
        have HAP := Lib.hid hAp
        have HC := Lib.hid hcell
        have hstep : loadN (f + 1) p' s k = if c ≠ 0 then (p', k) else loadN f q' s n := by
          simp only [loadN]; rw [hx]; simp only [ne_eq, not_true_eq_false, if_false]; rw [hd]; simp only []; rw [hq]
        have HS := Lib.hid hstep
        obtain ⟨k1, k2, k3, k4⟩ := x
        clear hAp hcell hstep hq hd hde hx
        go_wp2_with fail
        refine (HN.out _).mono ?_
        rintro _ w1 ⟨rfl, hb1⟩
        go_wp2_with fail
        refine (HD.out _ hb1).mono ?_
        rintro _ w2 ⟨rfl, hb2⟩
        have hb3 := below_trans hb1 hb2
        clear hb1 hb2
        simp only [decV, Event.v]
        go_upto_region 7 with fail
        obtain ⟨w3, hw3⟩ : ∃ w3, w3 = w2.alloc (.cells #[.int .i64 k1, .int .i64 k2, .int .i64 k3, .int .i64 k4] 58) := ⟨_, rfl⟩
        have hx1 : w3.heap[w2.heap.size]? = some (.cells #[.int .i64 k1, .int .i64 k2, .int .i64 k3, .int .i64 k4] 58 (0, 0)) := by rw [hw3]; exact heap_alloc_new _ _
        have hb4 : Below wr.heap.size wr w3 := by rw [hw3]; exact below_trans hb3 (below_alloc _ _)
        rw [← hw3]
        clear hw3 hb3
        have hk' : ∀ W, Below w3.heap.size w3 W → W.cell? ⟨hb, 1, none⟩ = some (.int .i64 p'.nodes) ∧ W.cell? ⟨hb, 2, none⟩ = some (.int .i64 p'.copies) ∧ W.cell? ⟨hb, 3, none⟩ = some pv ∧ W.cell? ⟨hb, 4, none⟩ = some lv ∧
            W.cell? ⟨w2.heap.size, 0, none⟩ = some (.int .i64 k1) ∧ W.cell? ⟨w2.heap.size, 1, none⟩ = some (.int .i64 k2) ∧ W.cell? ⟨w2.heap.size, 2, none⟩ = some (.int .i64 k3) ∧ W.cell? ⟨w2.heap.size, 3, none⟩ = some (.int .i64 k4) := by
          intro W hb'
          obtain ⟨g1, g2, g3, g4⟩ := HC.out W (below_trans hb4 hb')
          have hx2 := (hb'.block _ (Array.getElem?_eq_some_iff.1 hx1).1).trans hx1
          exact ⟨g1, g2, g3, g4, cells_of hx2 0 _ rfl, cells_of hx2 1 _ rfl, cells_of hx2 2 _ rfl, cells_of hx2 3 _ rfl⟩
        obtain ⟨d1, d2, d3, d4, d5, d6, d7, d8⟩ := hk' w3 (Below.refl _ _)
        have hal := fun o => hk' (w3.alloc o) (below_alloc w3 o)
        have a0 := fun o => (hal o).1
        have a1 := fun o => (hal o).2.1
        have a2 := fun o => (hal o).2.2.1
        have a3 := fun o => (hal o).2.2.2.1
        have a4 := fun o => (hal o).2.2.2.2.1
        have a5 := fun o => (hal o).2.2.2.2.2.1
        have a6 := fun o => (hal o).2.2.2.2.2.2.1
        have a7 := fun o => (hal o).2.2.2.2.2.2.2
        clear hal hk' hx1
        go_cut [7, 9, 10] from 29 to 38 (fun u7 u9 u10 wc => ∃ (Y : Nat) (ta : Option Addr) (tc : Nat), u9 = .pointer (some ⟨Y, 0, none⟩) ∧ u10 = .slice ta T.length tc ∧ u7 = .int .i64 c ∧ PlanAt wc w3.heap.size Y q' ∧ Below w3.heap.size w3 wc ∧ TurnRd wc (.slice ta T.length tc) T)
        case first =>
          go_region_law
            (first
              | (go_simp; go_at_call 24; refine (HAP.out _ (by first | exact below_trans hb4 (show Below w3.heap.size w3 w3.drew from (Below.refl _ _).drew) | exact below_trans hb4 ((below_alloc w3 _).drew))).mono ?_; rintro e w5 ⟨pa5, la5, ta, pc5, lc5, tc, l5, j5, m5, n5, k5, rfl, h5, ht5, rfl, hb5⟩; (first | (have hz := kept0 (wr := w3) hb5; have z0 := cells_of hz 0 _ rfl; have z1 := cells_of hz 1 _ rfl; have z2 := cells_of hz 2 _ rfl; have z3 := cells_of hz 3 _ rfl; have g0 := frozen_of (j := 0) hz; have g1 := frozen_of (j := 1) hz; have g2 := frozen_of (j := 2) hz; have g3 := frozen_of (j := 3) hz) | skip)))
          all_goals
            first
              | have H5 := Lib.hid (cutTB h5 hb5 ht5)
              | have H5 := Lib.hid (cutTA h5 hb5 ht5)
            clear h5 hb5 ht5
            go_wp2_with fail
            go_meet
            exact ⟨_, _, _, rfl, rfl, rfl, H5.out⟩
        obtain ⟨Y, ta, tc, rfl, rfl, rfl, hpa, hbc, htr⟩ := hcut
        have hbel := below_trans hb4 hbc
        clear htr a0 a1 a2 a3 a4 a5 a6 a7 d1 d2 d3 d4 d5 d6 d7 d8
        by_cases hc0 : c = 0
        · subst hc0
          have hm3 := HM.out.1.below hbel
          obtain ⟨hY1, hY2, pa', la', pc', lc', hyb, hyf⟩ := hpa
          have hoff : PlanOff wc (HmF hb b mb q L) (planV q' pa' pc' la' lc') q' := PlanOff.of_from hyf (fun j hj => by have := HM.out.1.fLt j hj; have := hb4.size; omega)
          obtain ⟨h7, hu7⟩ := hm3.plan hoff
          obtain ⟨pv6, lv6, -, c0, c1, c2, c3, c4, c5, c6, c7, fz⟩ := hm3.hm.cells
          have y0 := cells_of hyb 0 _ rfl
          have y1 := cells_of hyb 1 _ rfl
          have y2 := cells_of hyb 2 _ rfl
          have y3 := cells_of hyb 3 _ rfl
          have hofg : OffAll w _ hb b mb q L v p (planV q' pa' pc' la' lc') q' := fun G g1 g2 _ => (PlanOff.of_from (G := G) hyf (fun j hj => by have := g2 j hj; have := HM.out.2.1.size; have := hb4.size; omega)).upd hu7 (fun k e => by rw [e]; exact g1 hb (.inl rfl))
          have hlast : loadN f q' s n = R := by rw [← HL.out, HS.out]; simp
          have H7 := Lib.hid (And.intro hlast (And.intro h7 (And.intro ((HM.out.2.1.trans (Upd.of_below hbel)).trans hu7) hofg)))
          clear hyb hyf hoff h7 hu7 hm3 hlast hofg
          go_wp2
          go_step3
          refine ⟨rfl, ⟨n, f, _, q', _, _, _, _, _, _, _, _, _, _, _, _, _, _, _, _, _, _, _, _, _, _, _, _, _, _, _, _, _, _, _, _, _, _, _, _, _, _, _, _, _, _, hlt2, by omega, H7.out.1, H7.out.2.1, H7.out.2.2, rfl⟩, ?_⟩
          clear H7
          simp
          omega
        · have hno : loadN (f + 1) p' s k = (p', k) := by rw [HS.out, if_pos hc0]
          have HNO := Lib.hid hno
          clear hno hpa hbc
          go_wp2
          try simp only [Exit.jump]
          go_ret
          exact HF.out _ hbel HNO.out
    · have hno : loadN (f + 1) p' s k = (p', k) := by simp only [loadN]; rw [hx, if_pos hcd]
      have HNO := Lib.hid hno
      clear hno hx
      go_wp2_with fail
      refine (HN.out _).mono ?_
      rintro _ w1 ⟨rfl, hb1⟩
      go_wp2
      try simp only [Exit.jump]
      go_ret
      exact HF.out _ hb1 HNO.out
end Go.Proofs.YtcpaaleogmiamaaGreatDoor
