/- The walk of helm.Do. -/
import Derived.Test.YtcpaaleogmiamaaGreatDoorMh28
import Derived.Test.YtcpaaleogmiamaaGreatDoorMh29
namespace Go.Proofs.YtcpaaleogmiamaaGreatDoor
open Go.RowKit

def doR (t : Tp) (p : Pl) (life : Int) (dead : Bool) (x : Event) : Tp × Pl × Bool × Int :=
  if readyB t life dead = true then (t, p, dead, 10)
  else if (applyP p x).2.2 ≠ 0 then (t, p, dead, (applyP p x).2.2)
  else if (wrT t (frameB (encE x))).2 ≠ 0 then ((wrT t (frameB (encE x))).1, p, dead || decide ((wrT t (frameB (encE x))).2 = 10), (wrT t (frameB (encE x))).2)
  else ((wrT t (frameB (encE x))).1, (applyP p x).1, dead, 0)

/-- What is sent. -/
def doE (t : Tp) (p : Pl) (life : Int) (dead : Bool) (x : Event) : List Pm := if (doR t p life dead x).2.2.2 = 0 then placesE (applyP p x).1 (applyP p x).2.1 else []

def DoneTo (w0 w : World) (hb b mb q : Nat) (L : TpL) (v : Value) (p : Pl) (M : List (Int × Int)) (life : Int) (r : Tp × Pl × Bool × Int) (E : List Pm) (e : Ending) (w' : World) : Prop :=
  ∃ lv n ms L' v', e = .returned (.tuple #[lv, .int .i64 r.2.2.2]) ∧ HmW w0 w' hb b mb q L' r.1 v' r.2.1 M life r.2.2.1 ∧ Upd (HmF hb b mb q L) w w' ∧ (∀ k ∈ tpBlocks L', k ∈ tpBlocks L ∨ w.heap.size ≤ k) ∧ n ≤ 1000 ∧
    w'.ownsRow w.heap.size 47 38 lv n ms ∧ (∀ u ∈ ms, u.oneCell' = true) ∧ MsRel E ms ∧
    ∀ G : Nat → Prop, (∀ k, HmF hb b mb q L k → G k) → (∀ k, G k → k < w.heap.size) → PlanOff w G v p → PlanOff w' (fun k => (G k ∨ k ∈ tpBlocks L') ∨ some k = lv.ownBlock) v' r.2.1

theorem DoneTo.same {w0 w w' : World} {hb b mb q : Nat} {L : TpL} {t : Tp} {v : Value} {p : Pl} {M : List (Int × Int)} {life : Int} {dead : Bool} (h : HmW w0 w hb b mb q L t v p M life dead) (hb' : Below w.heap.size w w') {r : Tp × Pl × Bool × Int} {E : List Pm} {c : Int} (hr : r = (t, p, dead, c)) (hE : E = []) :
    DoneTo w0 w hb b mb q L v p M life r E (.returned (.tuple #[.slice none 0 0, .int .i64 c])) w' := by
  subst hr
  exact ⟨_, 0, [], L, v, rfl, h.below hb', .of_below hb', fun _ hk => .inl hk, Nat.zero_le _, World.ownsRow_nil _ _ _ _, by simp, by rw [hE]; exact MsRel.nil, fun G h1 _ ho => (ho.below hb').grow (fun k hk => .inl (hk.elim (fun hk => hk.elim id (fun hk => h1 k (.inr (.inr (.inr (.inr hk)))))) (fun e => by cases e)))⟩

set_option maxRecDepth 100000 in
set_option maxHeartbeats 4000000 in
theorem HDo_any {w0 w : World} {hb b mb q : Nat} {L : TpL} {t : Tp} {v : Value} {p : Pl} {M : List (Int × Int)} {life : Int} {dead : Bool} (hE : Env w0) (h : HmW w0 w hb b mb q L t v p M life dead) (x : Event) :
    Calls Tryz.prog 20 #[.pointer (some ⟨hb, 0, none⟩), x.v] w (DoneTo w0 w hb b mb q L v p M life (doR t p life dead x) (doE t p life dead x)) := by
  obtain ⟨c, hc⟩ : ∃ c, (applyP p x).2.2 = c := ⟨_, rfl⟩
  obtain ⟨R, hR⟩ : ∃ R, doR t p life dead x = R := ⟨_, rfl⟩
  have hdo : R = doR t p life dead x := hR.symm
  obtain ⟨E, hEE⟩ : ∃ E, doE t p life dead x = E := ⟨_, rfl⟩
  have hEd : E = if R.2.2.2 = 0 then placesE (applyP p x).1 (applyP p x).2.1 else [] := by rw [← hEE, ← hR]; rfl
  rw [hEE, hR]
  have happ : ∀ W v', PlanRd W v' p → Calls Tryz.prog 24 #[v', x.v] W (Applied W p x) := fun W v' hv => Apply_any hv x
  have hxb : (∃ k1 k2 k3 k4, x = ⟨k1, k2, k3, k4⟩) := ⟨_, _, _, _, rfl⟩
  obtain ⟨rb, hrb⟩ : ∃ rb, readyB t life dead = rb := ⟨_, rfl⟩
  have hrd := fun W (hb' : Below w.heap.size w W) => Hready_any (h.below hb').hm
  rw [hrb] at hrd
  cases rb with
  | true =>
    simp only [if_true] at hrd
    have HRD := Lib.hid hrd
    have hfin : R = (t, p, dead, 10) := by rw [hdo, doR, if_pos hrb]
    have hE0 : E = [] := by rw [hEd, hfin]; rfl
    have HF := Lib.hid (And.intro hfin hE0)
    have H := Lib.hid h
    clear happ hrd hrb hdo hc hR hfin h hE0 hEd hEE
    obtain ⟨k1, k2, k3, k4⟩ := x
    go_enter Tryz.func20, Tryz.ntmps20
    go_wp2_with fail
    refine (HRD.out _ (below_alloc _ _)).mono ?_
    rintro _ w1 ⟨rfl, hb1⟩
    have hbw1 := below_trans (below_alloc w _) hb1
    go_wp2
    exact bodyPost_ret (v := .tuple #[.slice none 0 0, .int .i64 10]) (by simp [results, Tryz.results20, go_sem]) rfl (DoneTo.same H.out hbw1 HF.out.1 HF.out.2)
  | false =>
    simp only [Bool.false_eq_true, if_false] at hrd
    have HRD := Lib.hid hrd
    clear hrd
    obtain ⟨pv, lv, hv, c0, c1, c2, c3, c4, c5, c6, c7, fz⟩ := h.hm.cells
    subst hv
    have hAp : ∀ W, Below w.heap.size w W → Calls Tryz.prog 24 #[.agg #[.int .i64 p.nodes, .int .i64 p.copies, pv, lv], .agg #[.int .i64 x.kind, .int .i64 x.node, .int .i64 x.part, .int .i64 x.n]] W fun e w' =>
        ∃ (pa la ta : Option Addr) (pc lc tc l j m : Nat) (n k : Int), e = .returned (.tuple #[.agg #[.int .i64 n, .int .i64 k, .slice pa l pc, .slice la j lc], .slice ta m tc, .int .i64 c]) ∧
        PlanFrom w' W.heap.size (.agg #[.int .i64 n, .int .i64 k, .slice pa l pc, .slice la j lc]) (applyP p x).1 ∧ TurnRd w' (.slice ta m tc) (applyP p x).2.1 ∧ m = (applyP p x).2.1.length ∧ Below W.heap.size W w' := by
      intro W hb'
      have := Apply_out (h.below hb').hm.plan.rd x
      rw [hc] at this
      exact this
    have HAP := Lib.hid hAp
    clear happ hAp
    have hcell : ∀ W, Below w.heap.size w W → W.cell? ⟨hb, 1, none⟩ = some (.int .i64 p.nodes) ∧ W.cell? ⟨hb, 2, none⟩ = some (.int .i64 p.copies) ∧ W.cell? ⟨hb, 3, none⟩ = some pv ∧ W.cell? ⟨hb, 4, none⟩ = some lv := by
      intro W hb'
      have hlt := h.hm.apart.2.2.2.1
      exact ⟨by rw [hb'.cell (p := ⟨hb, 1, none⟩) hlt]; exact c1, by rw [hb'.cell (p := ⟨hb, 2, none⟩) hlt]; exact c2, by rw [hb'.cell (p := ⟨hb, 3, none⟩) hlt]; exact c3, by rw [hb'.cell (p := ⟨hb, 4, none⟩) hlt]; exact c4⟩
    have HC := Lib.hid hcell
    by_cases hc0 : c = 0
    · subst hc0
      obtain ⟨q', T, hq⟩ : ∃ q' T, applyP p x = (q', T, 0) := ⟨_, _, Prod.ext rfl (Prod.ext rfl hc)⟩
      obtain ⟨hT4, hTin⟩ := turned_in hq
      have hgq := applyP_good hq
      obtain ⟨hcb, -⟩ := applyP_yes hq
      have hev := (canB_iff.1 hcb).2.1
      obtain ⟨r1, e1, hwr⟩ : ∃ r1 e1, wrT t (frameB (encE x)) = (r1, e1) := ⟨_, _, rfl⟩
      have hW : ∀ W, Below w.heap.size w W → Calls Tryz.prog 76 #[.pointer (some ⟨hb, 0, none⟩), .agg #[.int .i64 x.kind, .int .i64 x.node, .int .i64 x.part, .int .i64 x.n]] W (WroteTo w0 W hb b mb q L (.agg #[.int .i64 p.nodes, .int .i64 p.copies, pv, lv]) p M life dead (r1, e1)) := by
        intro W hb'
        have := Hwrite_any hE (h.below hb') x hev
        rw [hwr] at this
        exact this
      have hRR : R = if e1 ≠ 0 then (r1, p, dead || decide (e1 = 10), e1) else (r1, q', dead, 0) := by
        rw [hdo, doR, if_neg (by rw [hrb]; simp), if_neg (by rw [hc]; simp), hwr, hq]
      have HWR := Lib.hid hW
      rw [hq] at hEd
      have HRR := Lib.hid (And.intro hRR hEd)
      have H := Lib.hid h
      have HG := Lib.hid (And.intro hgq (And.intro hT4 hTin))
      clear hrb hdo hc hR h hcell hxb hRR hW hwr hev hcb hgq hTin hT4 hEd hEE
      rw [hq] at HAP
      clear hq
      obtain ⟨k1, k2, k3, k4⟩ := x
      simp only [Event.v] at *
      go_enter Tryz.func20, Tryz.ntmps20
      go_wp2_with fail
      refine (HRD.out _ (below_alloc _ _)).mono ?_
      rintro _ w1 ⟨rfl, hb1⟩
      have hbw1 := below_trans (below_alloc w _) hb1
      have hx1 : w1.heap[w.heap.size]? = some (.cells #[.int .i64 k1, .int .i64 k2, .int .i64 k3, .int .i64 k4] 58 (0, 0)) := (hb1.block _ (by simp)).trans (heap_alloc_new _ _)
      have hk : ∀ W, Below w1.heap.size w1 W → W.cell? ⟨hb, 1, none⟩ = some (.int .i64 p.nodes) ∧ W.cell? ⟨hb, 2, none⟩ = some (.int .i64 p.copies) ∧ W.cell? ⟨hb, 3, none⟩ = some pv ∧ W.cell? ⟨hb, 4, none⟩ = some lv ∧
          W.cell? ⟨w.heap.size, 0, none⟩ = some (.int .i64 k1) ∧ W.cell? ⟨w.heap.size, 1, none⟩ = some (.int .i64 k2) ∧ W.cell? ⟨w.heap.size, 2, none⟩ = some (.int .i64 k3) ∧ W.cell? ⟨w.heap.size, 3, none⟩ = some (.int .i64 k4) := by
        intro W hb'
        obtain ⟨g1, g2, g3, g4⟩ := HC.out W (below_trans hbw1 hb')
        have hx2 := (hb'.block _ (Array.getElem?_eq_some_iff.1 hx1).1).trans hx1
        exact ⟨g1, g2, g3, g4, cells_of hx2 0 _ rfl, cells_of hx2 1 _ rfl, cells_of hx2 2 _ rfl, cells_of hx2 3 _ rfl⟩
      have HK := Lib.hid hk
      obtain ⟨d1, d2, d3, d4, d5, d6, d7, d8⟩ := hk w1 (Below.refl _ _)
      have hal := fun o => hk (w1.alloc o) (below_alloc w1 o)
      have a0 := fun o => (hal o).1
      have a1 := fun o => (hal o).2.1
      have a2 := fun o => (hal o).2.2.1
      have a3 := fun o => (hal o).2.2.2.1
      have a4 := fun o => (hal o).2.2.2.2.1
      have a5 := fun o => (hal o).2.2.2.2.2.1
      have a6 := fun o => (hal o).2.2.2.2.2.2.1
      have a7 := fun o => (hal o).2.2.2.2.2.2.2
      clear c0 c1 c2 c3 c4 c5 c6 c7 fz hb1 hx1 hk hal
      go_upto_region 4 with fail
      go_cut [7, 8, 9] from 21 to 30 (fun u7 u8 u9 wc => ∃ (Y : Nat) (ta : Option Addr) (tc : Nat), u7 = .pointer (some ⟨Y, 0, none⟩) ∧ u8 = .slice ta T.length tc ∧ u9 = .int .i64 0 ∧ PlanAt wc w1.heap.size Y q' ∧ Below w1.heap.size w1 wc ∧ TurnRd wc (.slice ta T.length tc) T)
      case first =>
        go_region_law
          (first
            | (go_simp; go_at_call 24; refine (HAP.out _ (by first | exact below_trans hbw1 (show Below w1.heap.size w1 w1.drew from (Below.refl _ _).drew) | exact below_trans hbw1 ((below_alloc w1 _).drew))).mono ?_; rintro e w5 ⟨pa5, la5, ta, pc5, lc5, tc, l5, j5, m5, n5, k5, rfl, h5, ht5, rfl, hb5⟩; (first | (have hz := kept0 (wr := w1) hb5; have z0 := cells_of hz 0 _ rfl; have z1 := cells_of hz 1 _ rfl; have z2 := cells_of hz 2 _ rfl; have z3 := cells_of hz 3 _ rfl; have g0 := frozen_of (j := 0) hz; have g1 := frozen_of (j := 1) hz; have g2 := frozen_of (j := 2) hz; have g3 := frozen_of (j := 3) hz) | skip)))
        all_goals
          first
            | have H5 := Lib.hid (cutTB h5 hb5 ht5)
            | have H5 := Lib.hid (cutTA h5 hb5 ht5)
          clear h5 hb5 ht5
          go_wp2_with fail
          go_meet
          exact ⟨_, _, _, rfl, rfl, rfl, H5.out⟩
      obtain ⟨Y, ta, tc, rfl, rfl, rfl, hpa, hbc, htr⟩ := hcut
      have hbel := below_trans hbw1 hbc
      obtain ⟨d1, d2, d3, d4, d5, d6, d7, d8⟩ := HK.out _ hbc
      have HQ := Lib.hid (And.intro hpa (And.intro hbel (And.intro htr hbc)))
      clear hpa hbel htr hbc a0 a1 a2 a3 a4 a5 a6 a7
      go_upto_region 7 with fail
      go_wp2_with fail
      refine (HWR.out _ HQ.out.2.1).mono ?_
      rintro _ w6 ⟨rfl, L6, h6, hu6, hn6⟩
      have hlt0 := H.out.fLt
      have hs1 := hbw1.size
      have hpa6 := HQ.out.1.upd hu6 (fun k hk => by have := hlt0 k hk; omega)
      have htr6 := HQ.out.2.2.1.off (F := HmF hb b mb q L) ((H.out.below HQ.out.2.1).notInt) hu6
      have hfr : Upd (HmF hb b mb q L) w w6 ∧ ∀ k ∈ tpBlocks L6, k ∈ tpBlocks L ∨ w.heap.size ≤ k := by
        refine ⟨(Upd.of_below (F := HmF hb b mb q L) HQ.out.2.1).trans hu6, fun k hk => ?_⟩
        have := HQ.out.2.1.size
        rcases hn6 k hk with e | e
        · exact .inl e
        · exact .inr (by omega)
      have hoff : ∀ v', PlanFrom wc w1.heap.size v' q' → PlanOff w6 (HmF hb b mb q L6) v' q' := by
        intro v' hv'
        have o1 : PlanOff wc (HmF hb b mb q L) v' q' := PlanOff.of_from hv' (fun k hk => by have := hlt0 k hk; omega)
        have o2 : PlanOff wc (fun k => HmF hb b mb q L k ∨ wc.heap.size ≤ k) v' q' := o1.grow (fun k hk => hk)
        refine (o2.upd hu6 (fun k hk => .inl hk)).grow (fun k hk => .inl ?_)
        rcases hk with e | e | e | e | hk
        · exact .inl (.inl e)
        · exact .inl (.inr (.inl e))
        · exact .inl (.inr (.inr (.inl e)))
        · exact .inl (.inr (.inr (.inr (.inl e))))
        · exact (hn6 k hk).elim (fun hk => .inl (.inr (.inr (.inr (.inr hk))))) .inr
      have hoffG : ∀ v', PlanFrom wc w1.heap.size v' q' → ∀ G : Nat → Prop, (∀ k, HmF hb b mb q L k → G k) → (∀ k, G k → k < w.heap.size) → PlanOff w6 (fun k => G k ∨ k ∈ tpBlocks L6) v' q' := by
        intro v' hv' G g1 g2
        have o1 : PlanOff wc G v' q' := PlanOff.of_from hv' (fun k hk => by have := g2 k hk; omega)
        have o2 : PlanOff wc (fun k => G k ∨ wc.heap.size ≤ k) v' q' := o1.grow (fun k hk => hk)
        refine (o2.upd hu6 (fun k hk => .inl (g1 k hk))).grow (fun k hk => .inl ?_)
        rcases hk with hk | hk
        · exact .inl hk
        · exact (hn6 k hk).elim (fun hk => .inl (g1 k (.inr (.inr (.inr (.inr hk)))))) .inr
      obtain ⟨hY1, hY2, pa', la', pc', lc', hyb, hyf⟩ := hpa6
      have hoff6 : PlanOff w6 (HmF hb b mb q L6) (planV q' pa' pc' la' lc') q' ∧ ∀ G : Nat → Prop, (∀ k, HmF hb b mb q L k → G k) → (∀ k, G k → k < w.heap.size) → PlanOff w6 (fun k => G k ∨ k ∈ tpBlocks L6) (planV q' pa' pc' la' lc') q' := by
        obtain ⟨-, -, pa2, la2, pc2, lc2, hyb2, hyf2⟩ := HQ.out.1
        have e := (hu6.block Y HQ.out.1.2.1 (fun hf => by have := hlt0 Y hf; omega)).trans hyb2
        rw [hyb] at e
        simp only [Option.some.injEq, Obj.cells.injEq, Array.mk.injEq, List.cons.injEq, and_true, true_and, Value.slice.injEq] at e
        obtain ⟨⟨rfl, rfl⟩, rfl, rfl⟩ := e
        exact ⟨hoff _ hyf2, hoffG _ hyf2⟩
      obtain ⟨hoff6, hoffg⟩ := hoff6
      have HOG := Lib.hid hoffg
      have HO := Lib.hid (And.intro hfr (And.intro htr6 (And.intro hoff6 (And.intro h6 (And.intro hY1 (And.intro hyb hyf))))))
      clear hoff hoffG hoff6 hoffg htr6 hfr hyf hu6 hn6 hlt0 hs1 d1 d2 d3 d4 d5 d6 d7 d8
      by_cases he : e1 = 0
      · subst he
        clear h6
        obtain ⟨pv6, lv6, -, c0, c1, c2, c3, c4, c5, c6, c7, fz⟩ := HO.out.2.2.2.1.hm.cells
        have y0 := cells_of hyb 0 _ rfl
        have y1 := cells_of hyb 1 _ rfl
        have y2 := cells_of hyb 2 _ rfl
        have y3 := cells_of hyb 3 _ rfl
        clear hyb
        go_upto_region 11 with fail
        obtain ⟨h7, hu7⟩ := HO.out.2.2.2.1.plan HO.out.2.2.1
        obtain ⟨w7, hw7⟩ : ∃ w7, w7 = (((w6.setCell ⟨hb, 1, none⟩ (.int .i64 q'.nodes)).setCell ⟨hb, 2, none⟩ (.int .i64 q'.copies)).setCell ⟨hb, 3, none⟩ (.slice pa' q'.parts.length pc')).setCell ⟨hb, 4, none⟩ (.slice la' q'.lives.length lc') := ⟨_, rfl⟩
        rw [← hw7] at h7 hu7 ⊢
        clear hw7 c0 c1 c2 c3 c4 c5 c6 c7 fz y0 y1 y2 y3
        have hLl : q'.lives.length ≤ 5 := (small_of_good HG.out.1).2.2
        have hrr := (HO.out.2.1.off (F := fun k => k = hb) (by rintro k rfl; exact HO.out.2.2.2.1.notInt _ (.inl rfl)) hu7).rd
        obtain ⟨ta0, tc0, et, -, -, hTc⟩ := hrr.cells
        obtain ⟨pv7, lv7, e7, -, hlv⟩ := h7.hm.plan.rd
        obtain ⟨rfl⟩ : lv7 = .slice la' q'.lives.length lc' := by simp only [Value.agg.injEq, Array.mk.injEq, List.cons.injEq, and_true, true_and] at e7; exact e7.2.symm
        obtain ⟨la0, lc0, el, -, -, hLc⟩ := hlv.cells
        obtain ⟨rfl, -⟩ : ta = ta0 ∧ tc = tc0 := by simpa using et
        obtain ⟨rfl, -⟩ : la' = la0 ∧ lc' = lc0 := by simpa using el
        have hst : ∀ W, Below w7.heap.size w7 W → W.cell? ⟨Y, 3, none⟩ = some (.slice la' q'.lives.length lc') ∧ (∀ k (hk : k < T.length), ∃ b off, ta = some ⟨b, off, none⟩ ∧ W.cell? ⟨b, off + k, none⟩ = some (.int .i64 T[k])) ∧
            ∀ k (hk : k < q'.lives.length), ∃ b off, la' = some ⟨b, off, none⟩ ∧ W.cell? ⟨b, off + k * 2, none⟩ = some (.int .i64 q'.lives[k].1) ∧ W.cell? ⟨b, off + k * 2 + 1, none⟩ = some (.int .i64 q'.lives[k].2) := by
          intro W hb'
          have hyY := (hu7.block Y hY2 (fun e => by have := h7.fLt; have h9 := H.out.fLt hb (.inl rfl); have h8 := hbw1.size; omega)).trans HO.out.2.2.2.2.2.1
          have hyW := (hb'.block Y (Array.getElem?_eq_some_iff.1 hyY).1).trans hyY
          refine ⟨cells_of hyW 3 _ rfl, fun k hk => ?_, fun k hk => ?_⟩
          · obtain ⟨b, off, e, hlt, hc⟩ := hTc k hk
            exact ⟨b, off, e, below_some hb' hc hlt⟩
          · obtain ⟨b, off, e, hlt, hc, hd⟩ := hLc k hk
            exact ⟨b, off, e, below_some hb' hc hlt, below_some hb' hd hlt⟩
        have hpl : ∀ W, Below w7.heap.size w7 W → ∀ i (hi : i < q'.parts.length) nd, Calls Tryz.prog 77 #[.pointer (some ⟨hb, 0, none⟩), .int .i64 (i : Int), .int .i64 nd] W (PlacedTo W q' i hi nd) :=
          fun W hb' i hi nd => Hplace_any (h7.below hb').hm HG.out.1 i hi nd
        have hT4 := HG.out.2.1
        have hfin : ∀ W oa n oc ms, Below w7.heap.size w7 W → n ≤ T.length * 5 → W.ownsRow w7.heap.size 47 38 (.slice oa n oc) n ms → (∀ u ∈ ms, u.oneCell' = true) → MsRel (placesE q' T) ms → DoneTo w0 w hb b mb q L (.agg #[.int .i64 p.nodes, .int .i64 p.copies, pv, lv]) p M life R E (.returned (.tuple #[.slice oa n oc, .int .i64 0])) W := by
          intro W oa n oc ms hb' hn ho h1 hms
          have hRe : R = (r1, q', dead, 0) := by rw [HRR.out.1]; simp
          have hEe : E = placesE q' T := by rw [HRR.out.2, hRe]; rfl
          rw [hRe, hEe]
          have hw67 : Upd (HmF hb b mb q L) w w7 := HO.out.1.1.trans (hu7.or (fun k e => .inl e))
          have h7' := h7.below hb'
          rw [show (dead || decide ((0 : Int) = 10)) = dead by simp] at h7'
          exact ⟨_, n, ms, L6, _, rfl, h7', hw67.trans (Upd.of_below hb'), HO.out.1.2, by omega, owns_mono ho hw67.size, h1, hms, fun G g1 g2 _ => ((((HOG.out G g1 g2).upd hu7 (fun k e => .inl (g1 k (.inl e)))).grow (H := fun k => (G k ∨ k ∈ tpBlocks L6) ∨ w7.heap.size ≤ k) (fun k hk => hk)).below hb').grow (fun k hk => .inl (hk.imp id (fun e => (owns_lt ho k e.symm).1)))⟩
        have hnil : w7.ownsRow w7.heap.size 47 38 (.slice none 0 0) 0 [] := World.ownsRow_nil _ _ _ _
        have HST := Lib.hid hst
        have HPL := Lib.hid hpl
        have HFI := Lib.hid hfin
        have HN := Lib.hid hnil
        have HTI := Lib.hid HG.out.2.2
        obtain ⟨i0, hi0, hz0, hz1, hz2⟩ := info_parts info_Msg
        clear hst hpl hfin hnil hTc hLc hrr hlv e7 et el h7 hu7 HRR HWR HRD HC HK HAP
        have T0 : (T.length : Int) ≤ 4 := by omega
        have L0 : (q'.lives.length : Int) ≤ 5 := by omega
        go_wp2
        go_loopg [11, 46] T.length (fun gk v11 v46 wt => ∃ (k n : Nat) (oa : Option Addr) (oc : Nat) (ms : List Value), k ≤ T.length ∧ gk = T.length - k ∧ v46 = .int .i64 k ∧ v11 = .slice oa n oc ∧ n ≤ k * 5 ∧ wt.ownsRow w7.heap.size 47 38 (.slice oa n oc) n ms ∧ (∀ u ∈ ms, u.oneCell' = true) ∧ MsRel (placesE q' (T.take k)) ms ∧ Below w7.heap.size w7 wt)
        case atStart => exact ⟨0, 0, none, 0, [], Nat.zero_le _, rfl, rfl, rfl, Nat.zero_le _, HN.out, by simp, MsRel.nil, Below.refl _ _⟩
        case round =>
          obtain ⟨k, n, oa, oc, ms, hk, rfl, rfl, rfl, hn, hown, h1, hms, hbt⟩ := hrel
          obtain ⟨y3, hTc, hLc⟩ := HST.out _ hbt
          have HOW := Lib.hid (And.intro hown (And.intro h1 (And.intro hbt (And.intro hn hms))))
          clear hown h1 hbt hn hms
          by_cases hkt : k < T.length
          · obtain ⟨tb, toff, rfl, x0⟩ := hTc k hkt
            obtain ⟨i, hi, hip⟩ := HTI.out k hkt
            rw [hi] at x0
            have HI := Lib.hid hi
            have j1 : (k : Int) < (T.length : Int) := by omega
            have j2 : (0 : Int) ≤ (k : Int) := by omega
            clear hTc hLc hi
            go_wp2
            go_loopg [11, 53] q'.lives.length (fun gk v11 v53 wt2 => ∃ (j n2 : Nat) (oa2 : Option Addr) (oc2 : Nat) (ms2 : List Value), j ≤ q'.lives.length ∧ gk = q'.lives.length - j ∧ v53 = .int .i64 j ∧ v11 = .slice oa2 n2 oc2 ∧ n2 ≤ k * 5 + j ∧ wt2.ownsRow w7.heap.size 47 38 (.slice oa2 n2 oc2) n2 ms2 ∧ (∀ u ∈ ms2, u.oneCell' = true) ∧ MsRel (placesE q' (T.take k) ++ (q'.lives.take j).map (fun l => ⟨(i : Int), (atP q'.parts (i : Int)).epoch, (atP q'.parts (i : Int)).learner, l.1, q'.lives.length⟩)) ms2 ∧ Below w7.heap.size w7 wt2)
            case atStart => exact ⟨0, n, oa, oc, ms, Nat.zero_le _, rfl, rfl, rfl, by have := HOW.out.2.2.2.1; omega, HOW.out.1, HOW.out.2.1, by simpa using HOW.out.2.2.2.2, HOW.out.2.2.1⟩
            case round =>
              obtain ⟨j, n2, oa2, oc2, ms2, hj, rfl, rfl, rfl, hn2, hown, h1, hms, hbt⟩ := hrel
              obtain ⟨y3, hTc, hLc⟩ := HST.out _ hbt
              have HO2 := Lib.hid (And.intro hown (And.intro h1 (And.intro hbt hn2)))
              have HMS := Lib.hid hms
              clear hown h1 hbt hn2 hTc hms
              by_cases hjt : j < q'.lives.length
              · obtain ⟨lb, loff, rfl, z0, z1⟩ := hLc j hjt
                have l1 : (j : Int) < (q'.lives.length : Int) := by omega
                have l2 : (0 : Int) ≤ (j : Int) := by omega
                obtain ⟨nd, hnd⟩ : ∃ nd, q'.lives[j].1 = nd := ⟨_, rfl⟩
                obtain ⟨lf, hlf⟩ : ∃ lf, q'.lives[j].2 = lf := ⟨_, rfl⟩
                rw [hnd] at z0
                rw [hlf] at z1
                have HPj := Lib.hid (fun W hb' => HPL.out W hb' i hip nd)
                have HND := Lib.hid hnd
                clear hLc hnd hlf
                go_wp2_with fail
                refine (HPj.out _ (HO2.out.2.2.1.alloc HO2.out.2.2.1.size _)).mono ?_
                rintro _ w8 ⟨ca8, la8, cl8, cc8, lc8, rfl, hb8⟩
                have HCV := Lib.hid (placeM_one (i : Int) q'.parts[i].epoch q'.parts[i].learner nd (cv := .slice ca8 cl8 cc8) (lvv := .slice la8 q'.lives.length lc8) rfl rfl)
                have hbA : Below wr.heap.size wr w8 := below_trans (below_alloc wr _) hb8
                have ho8 := owns_upd HO2.out.1 (Upd.of_below (F := fun _ => False) hbA) (fun _ _ h => h)
                have HB8 := Lib.hid (And.intro hbA ho8)
                have hst9 : MsRel (placesE q' (T.take k) ++ (q'.lives.take (j + 1)).map (fun l => ⟨(i : Int), (atP q'.parts (i : Int)).epoch, (atP q'.parts (i : Int)).learner, l.1, q'.lives.length⟩)) (ms2 ++ placeM (i : Int) q'.parts[i].epoch q'.parts[i].learner nd (.slice ca8 cl8 cc8) (.slice la8 q'.lives.length lc8)) := by
                  rw [List.take_succ_eq_append_getElem hjt, List.map_append, ← List.append_assoc]
                  refine MsRel.snoc HMS.out ⟨ca8, la8, cl8, cc8, lc8, ?_⟩
                  simp only [atP_lt hip, HND.out]
                have HS9 := Lib.hid hst9
                clear hst9
                clear hb8 hbA ho8 z0 z1 y3
                generalize q'.parts[i].epoch = ep at *
                generalize q'.parts[i].learner = le at *
                have hn9 : n2 ≤ 30 := by have := HO2.out.2.2.2; omega
                have hs9 : w7.heap.size ≤ w8.heap.size := Nat.le_trans HO2.out.2.2.1.size HB8.out.1.size
                go_wp2_with (at_builtin; refine wpList_append_own _ rfl _ _ 32 rfl w7.heap.size 47 i0 _ 38 432 und_Msgs hi0 hz0 hz1 hz2 rfl (by decide) (.slice oa2 n2 oc2) n2 ms2 rfl (HB8.out.2.alloc _) ⟨w8.heap.size, 0, none⟩ 1 1 (placeM (i : Int) ep le nd (.slice ca8 cl8 cc8) (.slice la8 q'.lives.length lc8)) rfl rfl (World.news_of_block (cs := (placeM (i : Int) ep le nd (.slice ca8 cl8 cc8) (.slice la8 q'.lives.length lc8)).toArray) (t := 47) (fr := (0, 0)) (heap_alloc_new w8 _)) ?_ ?_ ?_ ?_ ?_; (exact HCV.out); (unfold maxLen; omega); omega; (simp only [World.size_alloc]; omega); intro out' w9 hown9 hgrow9 hnil9)
                have hbel9 : Below w7.heap.size w7 w9 := by
                  have b1 : Below w7.heap.size w7 w8 := HO2.out.2.2.1.trans (HB8.out.1.mono HO2.out.2.2.1.size)
                  have b2 := (upd_grown hgrow9).toBelow (N := w7.heap.size) (by simp only [World.size_alloc]; omega) (fun g e => (owns_lt HB8.out.2 g e.symm).1)
                  exact (b1.alloc b1.size _).trans b2
                have hone9 : ∀ u ∈ ms2 ++ placeM (i : Int) ep le nd (.slice ca8 cl8 cc8) (.slice la8 q'.lives.length lc8), u.oneCell' = true := fun u hu => (List.mem_append.1 hu).elim (HO2.out.2.1 u) (HCV.out u)
                obtain ⟨oa9, oc9, e9, -⟩ := (Sl.of_owns hown9).shape
                subst e9
                have hn10 : n2 + 1 ≤ k * 5 + (j + 1) := by have := HO2.out.2.2.2; omega
                have HR9 := Lib.hid (And.intro hn10 (And.intro hown9 (And.intro hone9 (And.intro HS9.out hbel9))))
                clear hbel9 hone9 hown9 hgrow9 hnil9 hn10
                go_roundg (q'.lives.length - (j + 1))
                case measure => omega
                case rel => exact ⟨j + 1, n2 + 1, oa9, oc9, _, by omega, rfl, by go_num, rfl, HR9.out⟩
              · have l1 : ¬ (j : Int) < (q'.lives.length : Int) := by omega
                obtain ⟨hown, h1, hbt, hn2⟩ := HO2.out
                have hn3 : n2 ≤ (k + 1) * 5 := by omega
                have hmsk : MsRel (placesE q' (T.take (k + 1))) ms2 := by
                  have := HMS.out
                  rw [List.take_of_length_le (show q'.lives.length ≤ j by omega)] at this
                  rw [placesE_succ q' T k hkt, HI.out]
                  exact this
                have HRL := Lib.hid (And.intro hn3 (And.intro hown (And.intro h1 (And.intro hmsk hbt))))
                clear hmsk
                clear hLc hown h1 hbt hn2 hn3
                go_wp2
                go_roundg (T.length - (k + 1))
                case measure => omega
                case rel => exact ⟨k + 1, n2, oa2, oc2, ms2, by omega, rfl, by go_num, rfl, HRL.out⟩
          · have j1 : ¬ (k : Int) < (T.length : Int) := by omega
            obtain ⟨hown, h1, hbt, hn, hms⟩ := HOW.out
            rw [List.take_of_length_le (show T.length ≤ k by omega)] at hms
            have hnn : n ≤ T.length * 5 := by omega
            have HFF := Lib.hid (HFI.out _ oa n oc ms hbt hnn hown h1 hms)
            clear hTc hLc hown h1 hbt hn hnn hms
            go_wp2
            exact bodyPost_ret (v := .tuple #[.slice oa n oc, .int .i64 0]) (by simp [results, Tryz.results20, go_sem]) rfl HFF.out
      · clear hyb
        have hfin : R = (r1, p, dead || decide (e1 = 10), e1) := by rw [HRR.out.1, if_pos he]
        have hE0 : E = [] := by rw [HRR.out.2, hfin]; exact if_neg he
        have HF := Lib.hid (And.intro hfin hE0)
        clear hE0
        have H6 := Lib.hid h6
        clear hfin h6
        go_wp2
        refine bodyPost_ret (v := .tuple #[.slice none 0 0, .int .i64 e1]) (by simp [results, Tryz.results20, go_sem]) rfl ?_
        rw [HF.out.1, HF.out.2]
        exact ⟨_, 0, [], L6, _, rfl, H6.out, HO.out.1.1, HO.out.1.2, Nat.zero_le _, World.ownsRow_nil _ _ _ _, by simp, MsRel.nil, fun G g1 _ ho => ((ho.grow (H := fun k => G k ∨ w.heap.size ≤ k) (fun k hk => hk)).upd HO.out.1.1 (fun k hk => .inl (g1 k hk))).grow (fun k hk => .inl ((hk.elim id (fun e => by cases e)).elim .inl (fun hk => (HO.out.1.2 k hk).elim (fun e => .inl (g1 k (.inr (.inr (.inr (.inr e)))))) .inr)))⟩
    · have hfin : R = (t, p, dead, c) := by rw [hdo, doR, if_neg (by rw [hrb]; simp), if_pos (by rw [hc]; exact hc0), hc]
      have hE0 : E = [] := by rw [hEd, hfin]; exact if_neg hc0
      have HF := Lib.hid (And.intro hfin hE0)
      have H := Lib.hid h
      clear hrb hdo hc hR hfin h hcell hxb hE0 hEd hEE
      generalize applyP p x = y at *
      obtain ⟨k1, k2, k3, k4⟩ := x
      simp only [Event.v] at *
      go_enter Tryz.func20, Tryz.ntmps20
      go_wp2_with fail
      refine (HRD.out _ (below_alloc _ _)).mono ?_
      rintro _ w1 ⟨rfl, hb1⟩
      have hbw1 := below_trans (below_alloc w _) hb1
      have hx1 : w1.heap[w.heap.size]? = some (.cells #[.int .i64 k1, .int .i64 k2, .int .i64 k3, .int .i64 k4] 58 (0, 0)) := (hb1.block _ (by simp)).trans (heap_alloc_new _ _)
      have hk : ∀ W, Below w1.heap.size w1 W → W.cell? ⟨hb, 1, none⟩ = some (.int .i64 p.nodes) ∧ W.cell? ⟨hb, 2, none⟩ = some (.int .i64 p.copies) ∧ W.cell? ⟨hb, 3, none⟩ = some pv ∧ W.cell? ⟨hb, 4, none⟩ = some lv ∧
          W.cell? ⟨w.heap.size, 0, none⟩ = some (.int .i64 k1) ∧ W.cell? ⟨w.heap.size, 1, none⟩ = some (.int .i64 k2) ∧ W.cell? ⟨w.heap.size, 2, none⟩ = some (.int .i64 k3) ∧ W.cell? ⟨w.heap.size, 3, none⟩ = some (.int .i64 k4) := by
        intro W hb'
        obtain ⟨g1, g2, g3, g4⟩ := HC.out W (below_trans hbw1 hb')
        have hx2 := (hb'.block _ (Array.getElem?_eq_some_iff.1 hx1).1).trans hx1
        exact ⟨g1, g2, g3, g4, cells_of hx2 0 _ rfl, cells_of hx2 1 _ rfl, cells_of hx2 2 _ rfl, cells_of hx2 3 _ rfl⟩
      have HK := Lib.hid hk
      obtain ⟨d1, d2, d3, d4, d5, d6, d7, d8⟩ := hk w1 (Below.refl _ _)
      have hal := fun o => hk (w1.alloc o) (below_alloc w1 o)
      have a0 := fun o => (hal o).1
      have a1 := fun o => (hal o).2.1
      have a2 := fun o => (hal o).2.2.1
      have a3 := fun o => (hal o).2.2.2.1
      have a4 := fun o => (hal o).2.2.2.2.1
      have a5 := fun o => (hal o).2.2.2.2.2.1
      have a6 := fun o => (hal o).2.2.2.2.2.2.1
      have a7 := fun o => (hal o).2.2.2.2.2.2.2
      clear c0 c1 c2 c3 c4 c5 c6 c7 fz hb1 hx1 hk hal
      go_upto_region 4 with fail
      go_cut [7, 8, 9] from 21 to 30 (fun u7 u8 u9 wc => ∃ (Y : Nat) (ta : Option Addr) (tc : Nat), u7 = .pointer (some ⟨Y, 0, none⟩) ∧ u8 = .slice ta y.2.1.length tc ∧ u9 = .int .i64 c ∧ PlanAt wc w1.heap.size Y y.1 ∧ Below w1.heap.size w1 wc ∧ TurnRd wc (.slice ta y.2.1.length tc) y.2.1)
      case first =>
        go_region_law
          (first
            | (go_simp; go_at_call 24; refine (HAP.out _ (by first | exact below_trans hbw1 (show Below w1.heap.size w1 w1.drew from (Below.refl _ _).drew) | exact below_trans hbw1 ((below_alloc w1 _).drew))).mono ?_; rintro e w5 ⟨pa5, la5, ta, pc5, lc5, tc, l5, j5, m5, n5, k5, rfl, h5, ht5, rfl, hb5⟩; (first | (have hz := kept0 (wr := w1) hb5; have z0 := cells_of hz 0 _ rfl; have z1 := cells_of hz 1 _ rfl; have z2 := cells_of hz 2 _ rfl; have z3 := cells_of hz 3 _ rfl; have g0 := frozen_of (j := 0) hz; have g1 := frozen_of (j := 1) hz; have g2 := frozen_of (j := 2) hz; have g3 := frozen_of (j := 3) hz) | skip)))
        all_goals
          first
            | have H5 := Lib.hid (cutTB h5 hb5 ht5)
            | have H5 := Lib.hid (cutTA h5 hb5 ht5)
          clear h5 hb5 ht5
          go_wp2_with fail
          go_meet
          exact ⟨_, _, _, rfl, rfl, rfl, H5.out⟩
      obtain ⟨Y, ta, tc, rfl, rfl, rfl, hpa, hbc, htr⟩ := hcut
      have hbel := below_trans hbw1 hbc
      go_wp2
      exact bodyPost_ret (v := .tuple #[.slice none 0 0, .int .i64 c]) (by simp [results, Tryz.results20, go_sem]) rfl (DoneTo.same H.out hbel HF.out.1 HF.out.2)
end Go.Proofs.YtcpaaleogmiamaaGreatDoor
