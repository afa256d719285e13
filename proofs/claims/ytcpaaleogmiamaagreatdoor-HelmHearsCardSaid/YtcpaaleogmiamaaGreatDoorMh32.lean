/- The walk of helm.load. -/
/- The walk of helm.Open. -/
/- Frames one behind the other, in plain words. -/
import Derived.Test.YtcpaaleogmiamaaGreatDoorMh30
import Derived.Test.YtcpaaleogmiamaaGreatDoorMh31
import Derived.ScopeJumps
import Derived.WalkMore
import Derived.Test.YtcpaaleogmiamaaGreatDoorMh26
import Derived.Test.YtcpaaleogmiamaaGreatDoorMh16
import Derived.Test.YtcpaaleogmiamaaGreatDoorMh17
namespace Go.Proofs.YtcpaaleogmiamaaGreatDoor
open Go.RowKit

theorem wp_scope_back {P : Program} {a : Act} {w : World} {Q : Exit → Act → World → Prop} {c X : Code} (l : Nat) (J : Act → World → Prop) (μ : Act → World → Nat) (hf : findLabel c l = some (Code.skip.seq X))
    (hc : ∀ Q', X.wp P Q' a w → c.wp P Q' a w) (h0 : J a w)
    (pass : ∀ a w, J a w → X.wp P (Exit.jump l (fun a' w' => J a' w' ∧ μ a' w' < μ a w) Q) a w) : (Code.scope c).wp P Q a w :=
  wp_scope_jumps l J μ hf (hc _ (Code.wp_mono (fun e a' w' h => by
    cases e with
    | goto l' => exact ⟨h.1, h.2.1⟩
    | _ => exact h) (pass a w h0))) (fun a w hJ => wp_seq (wp_skip (by simpa [Exit.then] using pass a w hJ)))

/-- The events of a text from a place on, as far as they are right. -/
def loadN : Nat → Pl → List UInt8 → Nat → Pl × Nat
  | 0, p, _, k => (p, k)
  | f + 1, p, s, k =>
    if (nextV s k).2.2 ≠ 0 then (p, k)
    else match decE (nextV s k).1 with
      | none => (p, k)
      | some x => if (applyP p x).2.2 ≠ 0 then (p, k) else loadN f (applyP p x).1 s (nextV s k).2.1

theorem nextV_lt {s : List UInt8} {k : Nat} {y : List UInt8} {n : Nat} (h : nextV s k = (y, n, 0)) : k + 8 ≤ n ∧ n ≤ s.length ∧ y.length ≤ s.length := by
  unfold nextV at h
  split at h
  · simp at h
  · split at h
    · simp at h
    · split at h
      · simp at h
      · split at h
        · simp at h
        · split at h
          · simp at h
          · simp only [Prod.mk.injEq, and_true] at h
            obtain ⟨rfl, rfl⟩ := h
            rename_i h1 h2 h3 h4 h5
            simp only [List.length_drop, List.length_take] at *
            omega

/-- A plan that is read whatever is written in G is followed by one that is. -/
def OffAll (w w' : World) (hb b mb q : Nat) (L : TpL) (v : Value) (p : Pl) (v' : Value) (p' : Pl) : Prop :=
  ∀ G : Nat → Prop, (∀ k, HmF hb b mb q L k → G k) → (∀ k, G k → k < w.heap.size) → PlanOff w G v p → PlanOff w' G v' p'
def LoadedTo (w0 w : World) (hb b mb q : Nat) (L : TpL) (t : Tp) (v : Value) (p : Pl) (M : List (Int × Int)) (life : Int) (dead : Bool) (r : Pl × Nat) (e : Ending) (w' : World) : Prop :=
  e = .returned (.int .i64 (r.2 : Int)) ∧ ∃ v', HmW w0 w' hb b mb q L t v' r.1 M life dead ∧ Upd (fun k => k = hb) w w' ∧ OffAll w w' hb b mb q L v p v' r.1

set_option maxRecDepth 100000 in
set_option maxHeartbeats 4000000 in
theorem Hload_any {w0 w : World} {hb b mb q : Nat} {L : TpL} {t : Tp} {v : Value} {p : Pl} {M : List (Int × Int)} {life : Int} {dead : Bool} (hE : Env w0) (h : HmW w0 w hb b mb q L t v p M life dead) (s : List UInt8) (hs : s.length ≤ 140737488355327) :
    Calls Tryz.prog 65 #[.pointer (some ⟨hb, 0, none⟩), .string (bs s)] w (LoadedTo w0 w hb b mb q L t v p M life dead (loadN (s.length + 1) p s 0)) := by
  obtain ⟨R, hR⟩ : ∃ R, loadN (s.length + 1) p s 0 = R := ⟨_, rfl⟩
  rw [hR]
  have H := Lib.hid h
  have HR := Lib.hid hR
  clear h hR
  go_enter Tryz.func65, Tryz.ntmps65
  go_wp2
  refine wp_scope_back 0 (fun a' wt => ∃ (k f : Nat) (v' : Value) (p' : Pl) (u5 u6 u7 u8 u9 u10 u11 u12 u13 u14 u15 u16 u17 u18 u19 u20 u21 u22 u23 u24 u25 u26 u27 u28 u29 u30 u31 u32 u33 u34 u35 u36 u37 u38 u39 u40 u41 u42 u43 u44 u45 u46 : Value), k ≤ s.length ∧ s.length < f + k ∧ loadN f p' s k = R ∧ HmW w0 wt hb b mb q L t v' p' M life dead ∧ (Upd (fun k => k = hb) w wt ∧ OffAll w wt hb b mb q L v p v' p') ∧ a' = { tmps := #[.pointer (some ⟨hb, 0, none⟩), .string (bs s), undef, undef, .int .i64 (k : Int), u5, u6, u7, u8, u9, u10, u11, u12, u13, u14, u15, u16, u17, u18, u19, u20, u21, u22, u23, u24, u25, u26, u27, u28, u29, u30, u31, u32, u33, u34, u35, u36, u37, u38, u39, u40, u41, u42, u43, u44, u45, u46], defers := [] })
    (fun a' _ => match a'.tmps.getD 4 undef with | .int _ k => s.length - k.toNat | _ => 0) rfl ?_ ⟨0, s.length + 1, v, p, _, _, _, _, _, _, _, _, _, _, _, _, _, _, _, _, _, _, _, _, _, _, _, _, _, _, _, _, _, _, _, _, _, _, _, _, _, _, _, _, _, _, Nat.zero_le _, by omega, HR.out, H.out, ⟨Upd.refl _ _, fun _ _ _ h => h⟩, rfl⟩ ?_
  · intro Q' h
    go_wp2
    go_step3
    rename_i K hK
    exact hK _ _ h
  · rintro a' wr ⟨k, f, v', p', u5, u6, u7, u8, u9, u10, u11, u12, u13, u14, u15, u16, u17, u18, u19, u20, u21, u22, u23, u24, u25, u26, u27, u28, u29, u30, u31, u32, u33, u34, u35, u36, u37, u38, u39, u40, u41, u42, u43, u44, u45, u46, hk, hf, hl, hm, hu, rfl⟩
    obtain ⟨f, rfl⟩ : ∃ g, f = g + 1 := ⟨f - 1, by omega⟩
    obtain ⟨y, n, cd, hx⟩ : ∃ y n cd, nextV s k = (y, n, cd) := ⟨_, _, _, rfl⟩
    have hnx : ∀ W, Calls Tryz.prog 132 #[.string (bs s), .int .i64 (k : Int)] W fun e w' => e = .returned (.tuple #[.string (bs y), .int .i64 (n : Int), .int .i64 cd]) ∧ Below W.heap.size W w' := by
      intro W
      have := FrNext_any s (by omega) k (by omega) W
      rw [hx] at this
      exact this
    have HN := Lib.hid hnx
    have hfin : ∀ W, Below wr.heap.size wr W → loadN (f + 1) p' s k = (p', k) → LoadedTo w0 w hb b mb q L t v p M life dead R (.returned (.int .i64 (k : Int))) W := by
      intro W hb' he
      rw [← hl, he]
      exact ⟨rfl, v', hm.below hb', hu.1.trans (Upd.of_below hb'), fun G g1 g2 ho => (hu.2 G g1 g2 ho).below hb'⟩
    have HF := Lib.hid hfin
    have HM := Lib.hid (And.intro hm hu)
    have HL := Lib.hid hl
    clear hnx hfin hm hu hl
    by_cases hcd : cd = 0
    · subst hcd
      obtain ⟨hlt1, hlt2, hyl⟩ := nextV_lt hx
      have hde : ∀ W, Below wr.heap.size wr W → Calls Tryz.prog 133 #[.string (bs y)] W fun e w' => e = .returned (decV (decE y)) ∧ Below W.heap.size W w' :=
        fun W hb' => Decode_any y (by omega) ((HM.out.1.below hb').env hE)
      cases hd : decE y with
      | none =>
        rw [hd] at hde
        have hno : loadN (f + 1) p' s k = (p', k) := by simp only [loadN]; rw [hx]; simp only [ne_eq, not_true_eq_false, if_false]; rw [hd]
        have HNO := Lib.hid hno
        have HD := Lib.hid hde
        clear hno hx hd hde
        go_wp2_with fail
        refine (HN.out _).mono ?_
        rintro _ w1 ⟨rfl, hb1⟩
        go_wp2_with fail
        refine (HD.out _ hb1).mono ?_
        rintro _ w2 ⟨rfl, hb2⟩
        have hb3 := below_trans hb1 hb2
        simp only [decV, Event.zero, Event.v]
        go_wp2
        try simp only [Exit.jump]
        go_ret
        exact HF.out _ (below_trans hb3 (below_alloc _ _)) HNO.out
      | some x =>
        rw [hd] at hde
        have HD := Lib.hid hde
        obtain ⟨q', T, c, hq⟩ : ∃ q' T c, applyP p' x = (q', T, c) := ⟨_, _, _, rfl⟩
        obtain ⟨pv, lv, hv, -⟩ := HM.out.1.hm.cells
        subst hv
        have hAp : ∀ W, Below wr.heap.size wr W → Calls Tryz.prog 24 #[.agg #[.int .i64 p'.nodes, .int .i64 p'.copies, pv, lv], .agg #[.int .i64 x.kind, .int .i64 x.node, .int .i64 x.part, .int .i64 x.n]] W fun e w' =>
            ∃ (pa la ta : Option Addr) (pc lc tc l j m : Nat) (n k : Int), e = .returned (.tuple #[.agg #[.int .i64 n, .int .i64 k, .slice pa l pc, .slice la j lc], .slice ta m tc, .int .i64 c]) ∧
            PlanFrom w' W.heap.size (.agg #[.int .i64 n, .int .i64 k, .slice pa l pc, .slice la j lc]) q' ∧ TurnRd w' (.slice ta m tc) T ∧ m = T.length ∧ Below W.heap.size W w' := by
          intro W hb'
          have := Apply_out (HM.out.1.below hb').hm.plan.rd x
          rw [hq] at this
          exact this
        have hcell : ∀ W, Below wr.heap.size wr W → W.cell? ⟨hb, 1, none⟩ = some (.int .i64 p'.nodes) ∧ W.cell? ⟨hb, 2, none⟩ = some (.int .i64 p'.copies) ∧ W.cell? ⟨hb, 3, none⟩ = some pv ∧ W.cell? ⟨hb, 4, none⟩ = some lv := by
          intro W hb'
          obtain ⟨pv2, lv2, e2, -, c1, c2, c3, c4, -⟩ := (HM.out.1.below hb').hm.cells
          simp only [Value.agg.injEq, Array.mk.injEq, List.cons.injEq, and_true, true_and] at e2
          obtain ⟨rfl, rfl⟩ := e2
          exact ⟨c1, c2, c3, c4⟩
        have HAP := Lib.hid hAp
        have HC := Lib.hid hcell
        have hstep : loadN (f + 1) p' s k = if c ≠ 0 then (p', k) else loadN f q' s n := by
          simp only [loadN]; rw [hx]; simp only [ne_eq, not_true_eq_false, if_false]; rw [hd]; simp only []; rw [hq]
        have HS := Lib.hid hstep
        obtain ⟨k1, k2, k3, k4⟩ := x
        clear hAp hcell hstep hq hd hde hx
        go_wp2_with fail
        refine (HN.out _).mono ?_
        rintro _ w1 ⟨rfl, hb1⟩
        go_wp2_with fail
        refine (HD.out _ hb1).mono ?_
        rintro _ w2 ⟨rfl, hb2⟩
        have hb3 := below_trans hb1 hb2
        clear hb1 hb2
        simp only [decV, Event.v]
        go_upto_region 7 with fail
        obtain ⟨w3, hw3⟩ : ∃ w3, w3 = w2.alloc (.cells #[.int .i64 k1, .int .i64 k2, .int .i64 k3, .int .i64 k4] 58) := ⟨_, rfl⟩
        have hx1 : w3.heap[w2.heap.size]? = some (.cells #[.int .i64 k1, .int .i64 k2, .int .i64 k3, .int .i64 k4] 58 (0, 0)) := by rw [hw3]; exact heap_alloc_new _ _
        have hb4 : Below wr.heap.size wr w3 := by rw [hw3]; exact below_trans hb3 (below_alloc _ _)
        rw [← hw3]
        clear hw3 hb3
        have hk' : ∀ W, Below w3.heap.size w3 W → W.cell? ⟨hb, 1, none⟩ = some (.int .i64 p'.nodes) ∧ W.cell? ⟨hb, 2, none⟩ = some (.int .i64 p'.copies) ∧ W.cell? ⟨hb, 3, none⟩ = some pv ∧ W.cell? ⟨hb, 4, none⟩ = some lv ∧
            W.cell? ⟨w2.heap.size, 0, none⟩ = some (.int .i64 k1) ∧ W.cell? ⟨w2.heap.size, 1, none⟩ = some (.int .i64 k2) ∧ W.cell? ⟨w2.heap.size, 2, none⟩ = some (.int .i64 k3) ∧ W.cell? ⟨w2.heap.size, 3, none⟩ = some (.int .i64 k4) := by
          intro W hb'
          obtain ⟨g1, g2, g3, g4⟩ := HC.out W (below_trans hb4 hb')
          have hx2 := (hb'.block _ (Array.getElem?_eq_some_iff.1 hx1).1).trans hx1
          exact ⟨g1, g2, g3, g4, cells_of hx2 0 _ rfl, cells_of hx2 1 _ rfl, cells_of hx2 2 _ rfl, cells_of hx2 3 _ rfl⟩
        obtain ⟨d1, d2, d3, d4, d5, d6, d7, d8⟩ := hk' w3 (Below.refl _ _)
        have hal := fun o => hk' (w3.alloc o) (below_alloc w3 o)
        have a0 := fun o => (hal o).1
        have a1 := fun o => (hal o).2.1
        have a2 := fun o => (hal o).2.2.1
        have a3 := fun o => (hal o).2.2.2.1
        have a4 := fun o => (hal o).2.2.2.2.1
        have a5 := fun o => (hal o).2.2.2.2.2.1
        have a6 := fun o => (hal o).2.2.2.2.2.2.1
        have a7 := fun o => (hal o).2.2.2.2.2.2.2
        clear hal hk' hx1
        go_cut [7, 9, 10] from 29 to 38 (fun u7 u9 u10 wc => ∃ (Y : Nat) (ta : Option Addr) (tc : Nat), u9 = .pointer (some ⟨Y, 0, none⟩) ∧ u10 = .slice ta T.length tc ∧ u7 = .int .i64 c ∧ PlanAt wc w3.heap.size Y q' ∧ Below w3.heap.size w3 wc ∧ TurnRd wc (.slice ta T.length tc) T)
        case first =>
          go_region_law
            (first
              | (go_simp; go_at_call 24; refine (HAP.out _ (by first | exact below_trans hb4 (show Below w3.heap.size w3 w3.drew from (Below.refl _ _).drew) | exact below_trans hb4 ((below_alloc w3 _).drew))).mono ?_; rintro e w5 ⟨pa5, la5, ta, pc5, lc5, tc, l5, j5, m5, n5, k5, rfl, h5, ht5, rfl, hb5⟩; (first | (have hz := kept0 (wr := w3) hb5; have z0 := cells_of hz 0 _ rfl; have z1 := cells_of hz 1 _ rfl; have z2 := cells_of hz 2 _ rfl; have z3 := cells_of hz 3 _ rfl; have g0 := frozen_of (j := 0) hz; have g1 := frozen_of (j := 1) hz; have g2 := frozen_of (j := 2) hz; have g3 := frozen_of (j := 3) hz) | skip)))
          all_goals
            first
              | have H5 := Lib.hid (cutTB h5 hb5 ht5)
              | have H5 := Lib.hid (cutTA h5 hb5 ht5)
            clear h5 hb5 ht5
            go_wp2_with fail
            go_meet
            exact ⟨_, _, _, rfl, rfl, rfl, H5.out⟩
        obtain ⟨Y, ta, tc, rfl, rfl, rfl, hpa, hbc, htr⟩ := hcut
        have hbel := below_trans hb4 hbc
        clear htr a0 a1 a2 a3 a4 a5 a6 a7 d1 d2 d3 d4 d5 d6 d7 d8
        by_cases hc0 : c = 0
        · subst hc0
          have hm3 := HM.out.1.below hbel
          obtain ⟨hY1, hY2, pa', la', pc', lc', hyb, hyf⟩ := hpa
          have hoff : PlanOff wc (HmF hb b mb q L) (planV q' pa' pc' la' lc') q' := PlanOff.of_from hyf (fun j hj => by have := HM.out.1.fLt j hj; have := hb4.size; omega)
          obtain ⟨h7, hu7⟩ := hm3.plan hoff
          obtain ⟨pv6, lv6, -, c0, c1, c2, c3, c4, c5, c6, c7, fz⟩ := hm3.hm.cells
          have y0 := cells_of hyb 0 _ rfl
          have y1 := cells_of hyb 1 _ rfl
          have y2 := cells_of hyb 2 _ rfl
          have y3 := cells_of hyb 3 _ rfl
          have hofg : OffAll w _ hb b mb q L v p (planV q' pa' pc' la' lc') q' := fun G g1 g2 _ => (PlanOff.of_from (G := G) hyf (fun j hj => by have := g2 j hj; have := HM.out.2.1.size; have := hb4.size; omega)).upd hu7 (fun k e => by rw [e]; exact g1 hb (.inl rfl))
          have hlast : loadN f q' s n = R := by rw [← HL.out, HS.out]; simp
          have H7 := Lib.hid (And.intro hlast (And.intro h7 (And.intro ((HM.out.2.1.trans (Upd.of_below hbel)).trans hu7) hofg)))
          clear hyb hyf hoff h7 hu7 hm3 hlast hofg
          go_wp2
          go_step3
          refine ⟨rfl, ⟨n, f, _, q', _, _, _, _, _, _, _, _, _, _, _, _, _, _, _, _, _, _, _, _, _, _, _, _, _, _, _, _, _, _, _, _, _, _, _, _, _, _, _, _, _, _, hlt2, by omega, H7.out.1, H7.out.2.1, H7.out.2.2, rfl⟩, ?_⟩
          clear H7
          simp
          omega
        · have hno : loadN (f + 1) p' s k = (p', k) := by rw [HS.out, if_pos hc0]
          have HNO := Lib.hid hno
          clear hno hpa hbc
          go_wp2
          try simp only [Exit.jump]
          go_ret
          exact HF.out _ hbel HNO.out
    · have hno : loadN (f + 1) p' s k = (p', k) := by simp only [loadN]; rw [hx, if_pos hcd]
      have HNO := Lib.hid hno
      clear hno hx
      go_wp2_with fail
      refine (HN.out _).mono ?_
      rintro _ w1 ⟨rfl, hb1⟩
      go_wp2
      try simp only [Exit.jump]
      go_ret
      exact HF.out _ hb1 HNO.out
end Go.Proofs.YtcpaaleogmiamaaGreatDoor
namespace Go.Proofs.YtcpaaleogmiamaaGreatDoor
open Go.RowKit

/-- The bytes of a tape's plan. -/
def planD (t : Tp) : List UInt8 := match fget t.files planN with | some f => f.data | none => []
def openR (t : Tp) (p0 : Pl) : Tp × Pl × Int :=
  if (loadN ((planD t).length + 1) p0 (planD t) 0).2 < (planD t).length then
    ((cutT t planN ((loadN ((planD t).length + 1) p0 (planD t) 0).2 : Int)).1, (loadN ((planD t).length + 1) p0 (planD t) 0).1, (cutT t planN ((loadN ((planD t).length + 1) p0 (planD t) 0).2 : Int)).2)
  else (t, (loadN ((planD t).length + 1) p0 (planD t) 0).1, 0)

def OpenedTo (w0 w : World) (b mb : Nat) (L : TpL) (t : Tp) (R : Tp × Pl × Int) (e : Ending) (w' : World) : Prop :=
  ∃ L' hb, Upd (TpF b mb L) w w' ∧ (∀ k ∈ tpBlocks L', k ∈ tpBlocks L ∨ w.heap.size ≤ k) ∧ e = .returned (.tuple #[if R.2.2 = 0 then .pointer (some ⟨hb, 0, none⟩) else .pointer none, .int .i64 R.2.2]) ∧
    w.heap.size ≤ hb ∧ ∃ q v, w.heap.size ≤ q ∧ HmW w0 w' hb b mb q L' R.1 v R.2.1 [] t.life false ∧ PlanOff w' (fun k => k < w.heap.size ∨ HmF hb b mb q L' k) v R.2.1

theorem HmW.make {w0 w : World} {hb b mb q : Nat} {L : TpL} {t : Tp} {p : Pl} {pa la : Option Addr} {pc lc : Nat} {N : Nat} (ht : TpAt w b mb L t) (hbl : w.heap[hb]? = some (.cells #[.pointer (some ⟨b, 0, none⟩), .int .i64 p.nodes, .int .i64 p.copies, .slice pa p.parts.length pc, .slice la p.lives.length lc, .map (some q), .int .i64 t.life, .bool false] 122 (0, 0)))
    (hq : w.heap[q]? = some (.map #[] 0)) {S : Nat} (hoff : PlanOff w (fun k => k < N ∨ S ≤ k) (planV p pa pc la lc) p) (hqm : q ≠ mb) (hS : ∀ k, HmF hb b mb q L k → k < N ∨ S ≤ k)
    (h0 : Below w0.heap.size w0 w) (hab : ∀ k, HmF hb b mb q L k → w0.heap.size ≤ k) : HmW w0 w hb b mb q L t (planV p pa pc la lc) p [] t.life false := by
  exact ⟨⟨⟨_, _, rfl, hbl⟩, ht, hoff.grow (fun k hk => .inl (hS k hk)), ⟨#[], 0, hq, rfl, by simp [MapKept.Stamped]⟩, hqm⟩, h0, hab⟩
theorem planD_len {t : Tp} (h : TpOk t) : (planD t).length ≤ 4194304 := by
  unfold planD
  split
  · rename_i f hf
    have h1 := h.sum
    have h2 := h.room.2
    unfold fget at hf
    rw [Option.map_eq_some_iff] at hf
    obtain ⟨x, hx, rfl⟩ := hf
    have h3 : x.2.data.length ≤ dataSum t.files := le_sum (List.mem_map.2 ⟨x, List.mem_of_find?_eq_some hx, rfl⟩)
    omega
  · simp
theorem planD_read {w : World} {b mb : Nat} {L : TpL} {t : Tp} (h : TpAt w b mb L t) (hd : t.down = false) : ∃ c, readV L t planN = .tuple #[.string (bs (planD t)), .int .i64 c] := by
  have hf : fget t.files planN = (flGet L planN).map (fun x => x.2.2) := by rw [h.eq]; exact fget_tp L planN
  unfold readV planD
  rw [if_neg (by rw [hd]; simp), hf]
  cases flGet L planN with
  | none => exact ⟨12, rfl⟩
  | some x => exact ⟨0, rfl⟩

set_option maxRecDepth 100000 in
set_option maxHeartbeats 4000000 in
theorem HOpen_any {w0 w : World} {b mb : Nat} {L : TpL} {t : Tp} (hE : Env w0) (h0 : Below w0.heap.size w0 w) (hab : ∀ k, TpF b mb L k → w0.heap.size ≤ k) (ht : TpAt w b mb L t) (hd : t.down = false) (n p c : Nat) (k a b' d e' : Int) (hok : newOkB n p c = true) :
    Calls Tryz.prog 14 #[.pointer (some ⟨b, 0, none⟩), cfgV n k p c a b' d e'] w (OpenedTo w0 w b mb L t (openR t (newP n p c))) := by
  obtain ⟨P, hP⟩ : ∃ P, newP n p c = P := ⟨_, rfl⟩
  have hnew : ∀ W, Calls Tryz.prog 61 #[cfgV n k p c a b' d e'] W fun e w' => ∃ (pa la : Option Addr) (pc lc l j : Nat) (n k : Int), e = .returned (.tuple #[.agg #[.int .i64 n, .int .i64 k, .slice pa l pc, .slice la j lc], .int .i64 0]) ∧ PlanFrom w' W.heap.size (.agg #[.int .i64 n, .int .i64 k, .slice pa l pc, .slice la j lc]) P ∧ Below W.heap.size W w' := by
    intro W
    refine (New_yes n p c k a b' d e' W hok).mono ?_
    rintro e w' ⟨v, rfl, h1, h2⟩
    rw [hP] at h1
    obtain ⟨pa, la, pc, lc, l, j, n', k', rfl⟩ := h1.split
    exact ⟨pa, la, pc, lc, l, j, n', k', rfl, h1, h2⟩
  obtain ⟨R, hR⟩ : ∃ R, openR t P = R := ⟨_, rfl⟩
  rw [hP, hR]
  have HNW := Lib.hid hnew
  have hdn := fun W (hb : Below w.heap.size w W) => TDown_any (ht.below hb)
  rw [hd] at hdn
  have HDN := Lib.hid hdn
  have HLF := Lib.hid (fun W (hb : Below w.heap.size w W) => TLife_any (ht.below hb))
  obtain ⟨lf, hlf⟩ : ∃ lf, t.life = lf := ⟨_, rfl⟩
  rw [hlf] at HLF
  have HT := Lib.hid (And.intro ht (And.intro h0 (And.intro hab (And.intro hlf (And.intro hd hR)))))
  clear hnew hdn ht h0 hab hlf hd hR hP hok
  go_enter Tryz.func14, Tryz.ntmps14
  go_wp2_with fail
  refine (HNW.out _).mono ?_
  rintro _ w1 ⟨pa, la, pc, lc, l, j, n', k', rfl, hpf, hb1⟩
  have hb2 := below_trans (below_alloc w _) hb1
  obtain ⟨pa0, la0, pc0, lc0, e1, e2, e3, e4⟩ := hpf.shape
  simp only [Value.int.injEq, true_and, Value.slice.injEq] at e1 e2 e3 e4
  obtain ⟨rfl, rfl, rfl⟩ := e3
  obtain ⟨rfl, rfl, rfl⟩ := e4
  subst e1 e2
  have hb3 := below_trans hb2 (below_alloc w1 (.cells #[.int .i64 P.nodes, .int .i64 P.copies, .slice pa P.parts.length pc, .slice la P.lives.length lc] 52))
  have hpf2 := hpf.below (below_alloc w1 (.cells #[.int .i64 P.nodes, .int .i64 P.copies, .slice pa P.parts.length pc, .slice la P.lives.length lc] 52))
  have hy := heap_alloc_new w1 (.cells #[.int .i64 P.nodes, .int .i64 P.copies, .slice pa P.parts.length pc, .slice la P.lives.length lc] 52)
  have hpm : (w.alloc (.cells #[.int .i64 n, .int .i64 k, .int .i64 p, .int .i64 c, .int .i64 a, .int .i64 b', .int .i64 d, .int .i64 e'] 25)).heap.size = w.heap.size + 1 := by simp
  go_wp2_with fail
  refine (HDN.out _ hb3).mono ?_
  rintro _ w2 ⟨rfl, rfl⟩
  go_upto_region 8 with fail
  obtain ⟨Y, hY⟩ : ∃ Y, w1.heap.size = Y := ⟨_, rfl⟩
  rw [hY] at hy
  obtain ⟨wd, hwd⟩ : ∃ wd, wd = w1.alloc (.cells #[.int .i64 P.nodes, .int .i64 P.copies, .slice pa P.parts.length pc, .slice la P.lives.length lc] 52) := ⟨_, rfl⟩
  rw [hY]
  rw [← hwd] at hb3 hpf2 hy ⊢
  have hkp : ∀ W, Below wd.heap.size wd W → W.cell? ⟨Y, 0, none⟩ = some (.int .i64 P.nodes) ∧ W.cell? ⟨Y, 1, none⟩ = some (.int .i64 P.copies) ∧ W.cell? ⟨Y, 2, none⟩ = some (.slice pa P.parts.length pc) ∧ W.cell? ⟨Y, 3, none⟩ = some (.slice la P.lives.length lc) := by
    intro W hb'
    have hy2 := (hb'.block Y (Array.getElem?_eq_some_iff.1 hy).1).trans hy
    exact ⟨cells_of hy2 0 _ rfl, cells_of hy2 1 _ rfl, cells_of hy2 2 _ rfl, cells_of hy2 3 _ rfl⟩
  have HK := Lib.hid hkp
  have hlf2 : ∀ W, Below wd.heap.size wd W → Calls Tryz.prog 63 #[.pointer (some ⟨b, 0, none⟩)] W fun e w' => e = .returned (.int .i64 lf) ∧ w' = W := fun W hb' => HLF.out W (below_trans hb3 hb')
  have HL2 := Lib.hid hlf2
  have HPF := Lib.hid (And.intro hpf2 hb3)
  clear hkp hlf2 hwd hb1 hb2 hpf hy hpf2 hb3 hpm
  go_cut [8] from 27 to 33 (fun u8 wc => ∃ q hb : Nat, u8 = .pointer (some ⟨hb, 0, none⟩) ∧ wd.heap.size ≤ q ∧ wd.heap.size ≤ hb ∧ q ≠ hb ∧ wc.heap[q]? = some (.map #[] 0) ∧ wc.heap[hb]? = some (.cells #[.pointer (some ⟨b, 0, none⟩), .int .i64 P.nodes, .int .i64 P.copies, .slice pa P.parts.length pc, .slice la P.lives.length lc, .map (some q), .int .i64 lf, .bool false] 122 (0, 0)) ∧ Below wd.heap.size wd wc)
  case first =>
    have hmm := @run_makeMap Tryz.prog
    go_region_held3 (fun W => W.cell? ⟨Y, 0, none⟩ = some (.int .i64 P.nodes) ∧ W.cell? ⟨Y, 1, none⟩ = some (.int .i64 P.copies) ∧ W.cell? ⟨Y, 2, none⟩ = some (.slice pa P.parts.length pc) ∧ W.cell? ⟨Y, 3, none⟩ = some (.slice la P.lives.length lc))
      (first | exact HK.out _ (Below.refl _ _).drew | exact HK.out _ (below_alloc _ _).drew | exact HK.out _ (below_alloc2 _ _ _).drew)
      (first | (go_at_call 63; with_reducible refine (HL2.out _ (by first | exact (Below.refl _ _).drew | exact (below_alloc _ _).drew)).mono ?_; rintro _ w5 ⟨rfl, rfl⟩))
    all_goals
      clear hmm
      go_wp2_with fail
      go_meet
      exact ⟨wd.heap.size, wd.heap.size + 1, rfl, Nat.le_refl _, by omega, by omega, (Below.heap_alloc _ _ _ (by simp)).trans (heap_alloc_new _ _), heap_new1 _ _ _, (below_alloc2 _ _ _).drew⟩
  obtain ⟨q, hb, rfl, hq1, hh1, hqh, hq2, hh2, hbc⟩ := hcut
  have hoff : PlanOff wc (fun j => j < (w.alloc (.cells #[.int .i64 n, .int .i64 k, .int .i64 p, .int .i64 c, .int .i64 a, .int .i64 b', .int .i64 d, .int .i64 e'] 25)).heap.size ∨ wd.heap.size ≤ j) (planV P pa pc la lc) P :=
    ((PlanOff.of_from (G := fun j => j < (w.alloc (.cells #[.int .i64 n, .int .i64 k, .int .i64 p, .int .i64 c, .int .i64 a, .int .i64 b', .int .i64 d, .int .i64 e'] 25)).heap.size) HPF.out.1 (fun j hj => hj)).grow (fun j hj => hj)).below hbc
  obtain ⟨ht, h0, hab, hlf, hd, hR⟩ := HT.out
  have hsz : (w.alloc (.cells #[.int .i64 n, .int .i64 k, .int .i64 p, .int .i64 c, .int .i64 a, .int .i64 b', .int .i64 d, .int .i64 e'] 25)).heap.size = w.heap.size + 1 := by simp
  have hbw := below_trans HPF.out.2 hbc
  have hs1 := HPF.out.2.size
  have hs0 := h0.size
  have hFl := ht.fLt
  have hm : HmW w0 wc hb b mb q L t (planV P pa pc la lc) P [] t.life false := by
    refine HmW.make (ht.below hbw) (by rw [hlf]; exact hh2) hq2 hoff (fun e => ?_) (fun j hj => ?_) (h0.trans (hbw.mono hs0)) (fun j hj => ?_)
    · have := hFl mb (.inr (.inl rfl)); omega
    · rcases hj with e | e | hj
      · exact .inr (by omega)
      · exact .inr (by omega)
      · exact .inl (by have := hFl j hj; omega)
    · rcases hj with e | e | hj
      · omega
      · omega
      · exact hab j hj
  have hoff0 : PlanOff wc (fun k => k < w.heap.size ∨ HmF hb b mb q L k) (planV P pa pc la lc) P := hoff.grow (fun j hj => by
    rcases hj with hj | e | e | hj
    · exact .inl (.inl (by omega))
    · exact .inl (.inr (by omega))
    · exact .inl (.inr (by omega))
    · exact .inl (.inl (by have := hFl j hj; omega)))
  have HOF0 := Lib.hid hoff0
  clear hoff0
  obtain ⟨cr, hcr⟩ := planD_read (ht.below hbw) hd
  have hrd := TRead_any (ht.below hbw) planN
  rw [hcr] at hrd
  have hdl := planD_len ht.ok
  have hld := fun W (hb' : Below wc.heap.size wc W) => Hload_any hE (hm.below hb') (planD t) (by omega)
  have hRR : R = openR t P := hR.symm
  unfold openR at hRR
  rw [hlf] at hm hld
  generalize planD t = D at *
  generalize loadN (D.length + 1) P D 0 = X at *
  obtain ⟨P2, at2⟩ := X
  have HMC := Lib.hid hm.fLt
  have HRD := Lib.hid hrd
  have HLD := Lib.hid hld
  have HRR := Lib.hid hRR
  have HB := Lib.hid (And.intro hbw (And.intro hlf (show w.heap.size ≤ hb ∧ w.heap.size ≤ q by omega)))
  clear hrd hld hRR hm hoff hsz hs1 hs0 hbc hcr ht h0 hab hlf hR hFl hbw hd
  go_wp2_with fail
  refine HRD.out.mono ?_
  rintro _ w3 ⟨rfl, rfl⟩
  go_wp2_with fail
  refine (HLD.out _ (Below.refl _ _)).mono ?_
  rintro _ w4 ⟨rfl, v4, hm4, hu4, ho4⟩
  have hof4 := ho4 (fun k => k < w.heap.size ∨ HmF hb b mb q L k) (fun k hk => .inr hk) (fun k hk => hk.elim (fun h => by have := HB.out.1.size; omega) (HMC.out k)) HOF0.out
  have HOF := Lib.hid hof4
  clear ho4 hof4
  have hb4 : Below w.heap.size w w4 := HB.out.1.trans (hu4.toBelow HB.out.1.size (fun j e => by have := HB.out.2.2.1; omega))
  have HM4 := Lib.hid (And.intro hm4 hb4)
  have hz : ((bs D).size : Int) = (D.length : Int) := by rw [bs_size]
  clear hm4 hb4 hu4
  by_cases hat : at2 < D.length
  · have i1 : (at2 : Int) < (D.length : Int) := by omega
    obtain ⟨t5, c5, hct⟩ : ∃ t5 c5, cutT t planN (at2 : Int) = (t5, c5) := ⟨_, _, rfl⟩
    have hR2 : R = (t5, P2, c5) := by rw [HRR.out, if_pos hat, hct]
    have hcut := TCut_any HM4.out.1.hm.tape planN (at2 : Int)
    rw [hct] at hcut
    have HCT := Lib.hid hcut
    have HR2 := Lib.hid hR2
    clear hct hcut hR2 HRR
    go_wp2_with fail
    refine HCT.out.mono ?_
    rintro _ w5 ⟨rfl, L5, ht5, hu5, hn5⟩
    have hm5 := HM4.out.1.step ht5 hu5 hn5
    have hfr : Upd (TpF b mb L) w w5 ∧ ∀ j ∈ tpBlocks L5, j ∈ tpBlocks L ∨ w.heap.size ≤ j := by
      refine ⟨(Upd.of_below (F := TpF b mb L) HM4.out.2).trans hu5, fun j hj => ?_⟩
      have := HM4.out.2.size
      rcases hn5 j hj with e | e
      · exact .inl e
      · exact .inr (by omega)
    have hof5 : PlanOff w5 (fun k => k < w.heap.size ∨ HmF hb b mb q L5 k) v4 P2 := by
      have h1 := HOF.out.grow (H := fun k => (k < w.heap.size ∨ HmF hb b mb q L k) ∨ w4.heap.size ≤ k) (fun k hk => hk)
      refine (h1.upd hu5 (fun k hk => .inl (.inr (.inr (.inr hk))))).grow (fun k hk => .inl ?_)
      rcases hk with hk | e | e | e | e | hk
      · exact .inl (.inl hk)
      · exact .inl (.inr (.inl e))
      · exact .inl (.inr (.inr (.inl e)))
      · exact .inl (.inr (.inr (.inr (.inl e))))
      · exact .inl (.inr (.inr (.inr (.inr (.inl e)))))
      · exact (hn5 k hk).elim (fun hk => .inl (.inr (.inr (.inr (.inr (.inr hk)))))) .inr
    have H5 := Lib.hid (And.intro hm5 (And.intro hfr hof5))
    clear ht5 hu5 hn5 hm5 hfr hof5
    by_cases hc5 : c5 = 0
    · subst hc5
      go_wp2
      refine bodyPost_ret (v := .tuple #[.pointer (some ⟨hb, 0, none⟩), .int .i64 0]) (by simp [results, Tryz.results14, go_sem]) rfl ?_
      rw [HR2.out]
      exact ⟨L5, hb, H5.out.2.1.1, H5.out.2.1.2, by simp, HB.out.2.2.1, q, v4, HB.out.2.2.2, by rw [HB.out.2.1]; exact H5.out.1, H5.out.2.2⟩
    · go_wp2
      refine bodyPost_ret (v := .tuple #[.pointer none, .int .i64 c5]) (by simp [results, Tryz.results14, go_sem]) rfl ?_
      rw [HR2.out]
      exact ⟨L5, hb, H5.out.2.1.1, H5.out.2.1.2, by simp [hc5], HB.out.2.2.1, q, v4, HB.out.2.2.2, by rw [HB.out.2.1]; exact H5.out.1, H5.out.2.2⟩
  · have i1 : ¬ (at2 : Int) < (D.length : Int) := by omega
    have hR2 : R = (t, P2, 0) := by rw [HRR.out, if_neg hat]
    have HR2 := Lib.hid hR2
    clear hR2 HRR
    go_wp2
    refine bodyPost_ret (v := .tuple #[.pointer (some ⟨hb, 0, none⟩), .int .i64 0]) (by simp [results, Tryz.results14, go_sem]) rfl ?_
    rw [HR2.out]
    exact ⟨L, hb, Upd.of_below HM4.out.2, fun j hj => .inl hj, by simp, HB.out.2.2.1, q, v4, HB.out.2.2.2, by rw [HB.out.2.1]; exact HM4.out.1, HOF.out⟩
end Go.Proofs.YtcpaaleogmiamaaGreatDoor
namespace Go.Proofs.YtcpaaleogmiamaaGreatDoor
open Go.RowKit

theorem frameB_len (y : List UInt8) : (frameB y).length = 8 + y.length := by simp only [frameB, List.length_append, fourB_len]; omega
theorem nextV_frame (A y B : List UInt8) (hy : y.length ≤ 16384) : nextV (A ++ (frameB y ++ B)) A.length = (y, A.length + (frameB y).length, 0) := by
  have hd : (A ++ (frameB y ++ B)).drop A.length = frameB y ++ B := by simp
  have hn : numB (frameB y ++ B) = y.length := by rw [frameB, List.append_assoc]; exact num_four (by omega) _
  have h4 : (frameB y ++ B).drop 4 = fourB (sumN y) ++ (y ++ B) := by simp [frameB, fourB]
  have h8 : (frameB y ++ B).drop 8 = y ++ B := by simp [frameB, fourB]
  have hl := frameB_len y
  have hn4 : numB (fourB (sumN y) ++ (y ++ B)) = sumN y := num_four (sumN_lt y) _
  unfold nextV
  rw [if_neg (by simp), hd, if_neg (by rw [List.length_append]; omega), hn, if_neg (by omega), if_neg (by rw [List.length_append]; omega), h8, h4, hn4]
  have ht : (y ++ B).take y.length = y := by simp
  rw [ht, if_neg (by simp)]
  simp only [Prod.mk.injEq, true_and, and_true]
  omega
theorem nextV_torn (A y : List UInt8) (g : Nat) (hg : g < (frameB y).length) (hy : y.length ≤ 16384) : (nextV (A ++ (frameB y).take g) A.length).2.2 ≠ 0 := by
  have hd : (A ++ (frameB y).take g).drop A.length = (frameB y).take g := by simp
  have hl := frameB_len y
  have hgl : ((frameB y).take g).length = g := by rw [List.length_take]; omega
  unfold nextV
  rw [if_neg (by simp), hd, hgl]
  by_cases h8 : g < 8
  · rw [if_pos h8]; decide
  · rw [if_neg h8]
    have hn : numB ((frameB y).take g) = y.length := by
      obtain ⟨j, rfl⟩ : ∃ j, g = j + 4 := ⟨g - 4, by omega⟩
      have : (frameB y).take (j + 4) = fourB y.length ++ (fourB (sumN y) ++ y).take j := by simp [frameB, fourB]
      rw [this]
      exact num_four (by omega) _
    rw [hn, if_neg (by omega), if_pos (by omega)]
    decide
theorem nextV_end (A : List UInt8) : (nextV A A.length).2.2 ≠ 0 := by
  unfold nextV
  rw [if_neg (by omega), if_pos (by simp)]
  decide
end Go.Proofs.YtcpaaleogmiamaaGreatDoor
