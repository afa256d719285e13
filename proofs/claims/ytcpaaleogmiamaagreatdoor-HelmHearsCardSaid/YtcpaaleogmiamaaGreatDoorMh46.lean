/- HelmHears' beats: what stands beside the master from the plan ahead of a beat to the test behind it. -/
import Derived.Test.YtcpaaleogmiamaaGreatDoorMh44
namespace Go.Proofs.YtcpaaleogmiamaaGreatDoor
open Go.RowKit

/-- The law's own blocks. -/
abbrev HsG (hb b mb q sb pb : Nat) (L : TpL) (k : Nat) : Prop := HmF hb b mb q L k ∨ (k = sb ∨ k = pb)

/-- Ahead of a beat: the master, the array, the plan's variable, the plan as it was. -/
structure HsB (wA w : World) (b mb sb pb ub : Nat) (kn j : Nat) (hb q : Nat) (L : TpL) (t : Tp) (v : Value) (P : Pl) (M : List (Int × Int)) (s1 s2 s3 : Int) (N : Nat) : Prop where
  hs : Hs wA w b mb sb kn j hb q L t v P M s1 s2 s3
  keep : PlanOff w (HsG hb b mb q sb pb L) v P
  pbx : ∃ c0 c1 c2 c3 : Value, w.heap[pb]? = some (.cells #[c0, c1, c2, c3] 52 (0, 0))
  was : NowAt w (HsG hb b mb q sb pb L) ub P
  ne : sb < ub ∧ pb < ub
  sbA : wA.heap.size ≤ sb
  pbA : wA.heap.size ≤ pb
  nN : N ≤ w.heap.size

theorem hs_step {wA w w10 : World} {b mb sb pb : Nat} {kn j hb q : Nat} {L : TpL} {t : Tp} {v : Value} {P : Pl} {M : List (Int × Int)} {s1 s2 s3 : Int} {pa la : Option Addr} {pc lc : Nat} {c0 c1 c2 c3 : Value} (h : Hs wA w b mb sb kn j hb q L t v P M s1 s2 s3) (hk : PlanOff w (HsG hb b mb q sb pb L) v P)
    (hx : w.heap[pb]? = some (.cells #[c0, c1, c2, c3] 52 (0, 0))) (hsA : wA.heap.size ≤ sb) (hpA : wA.heap.size ≤ pb) (hf : PlanFrom w10 w.heap.size (planV P pa pc la lc) P) (hb' : Below w.heap.size w w10) :
    HsB wA (w10.alloc (.cells #[.int .i64 P.nodes, .int .i64 P.copies, .slice pa P.parts.length pc, .slice la P.lives.length lc] 52)) b mb sb pb w10.heap.size kn j hb q L t v P M s1 s2 s3 w.heap.size := by
  have hbb : Below w.heap.size w (w10.alloc (.cells #[.int .i64 P.nodes, .int .i64 P.copies, .slice pa P.parts.length pc, .slice la P.lives.length lc] 52)) := hb'.alloc hb'.size _
  have hpl := (Array.getElem?_eq_some_iff.1 hx).1
  have hsl := (Array.getElem?_eq_some_iff.1 h.arr).1
  have hsz := hb'.size
  have hg : ∀ k, HsG hb b mb q sb pb L k → k < w.heap.size := by
    rintro k (hk | rfl | rfl)
    · exact h.hm.fLt k hk
    · exact hsl
    · exact hpl
  refine ⟨h.below hbb, hk.below hbb, ⟨c0, c1, c2, c3, (hbb.block _ hpl).trans hx⟩, ⟨pa, la, pc, lc, heap_alloc_new _ _, ?_⟩, ⟨by omega, by omega⟩, hsA, hpA, hbb.size⟩
  exact (PlanOff.of_from hf hg).below (below_alloc _ _)

/-- Behind a beat: the same master at the new plan, the array as yet as it was; the messages. -/
structure HsC (wA w : World) (b mb sb pb ub : Nat) (kn j : Nat) (hb q : Nat) (L : TpL) (t : Tp) (v : Value) (P0 P : Pl) (M : List (Int × Int)) (s1 s2 s3 x1 x2 x3 : Int) (nd : Int) (mv : Value) (E : List Pm) : Prop where
  hm : HmW wA w hb b mb q L t v P M t.life false
  keep : PlanOff w (HsG hb b mb q sb pb L) v P
  arr : w.heap[sb]? = some (.cells (sinceA s1 s2 s3) 48 (0, 0))
  pbx : ∃ c0 c1 c2 c3 : Value, w.heap[pb]? = some (.cells #[c0, c1, c2, c3] 52 (0, 0))
  was : NowAt w (HsG hb b mb q sb pb L) ub P0
  ne : sb < ub ∧ pb < ub
  sbA : wA.heap.size ≤ sb
  pbA : wA.heap.size ≤ pb
  heard : Heard t P M kn x1 x2 x3
  most : ∀ n, 0 ≤ missG M n ∧ missG M n ≤ j
  wants : wantsP P nd = []
  chains : ∀ i (hj : i < P0.parts.length) (hj' : i < P.parts.length), P.parts[i].chain = P0.parts[i].chain
  two : P0.parts.length = 2
  row : MsOwn w (ub + 1) mv (E ++ ownE P nd)

theorem hs_hear {wA w : World} {b mb sb pb ub : Nat} {kn j hb q : Nat} {L : TpL} {t : Tp} {v : Value} {P : Pl} {M : List (Int × Int)} {s1 s2 s3 : Int} {N : Nat} (hE : Env wA) (h : HsB wA w b mb sb pb ub kn j hb q L t v P M s1 s2 s3 N) (hub : w.heap.size = ub + 1) (hk : kn + 2 ≤ 500) {nd : Int} (hnd : nd = 1 ∨ nd = 2 ∨ nd = 3) :
    Calls Tryz.prog 16 #[.pointer (some ⟨hb, 0, none⟩), .agg (beatM nd 1)] w fun e w' => ∃ (a : Option Addr) (c n m : Nat) (L' : TpL) (t' : Tp) (v' : Value) (P' : Pl) (E : List Pm), e = .returned (.tuple #[.slice a m c, .int .i64 0]) ∧ n = E.length ∧ m = n + 2 ∧
      HsC wA w' b mb sb pb ub (kn + 2) j hb q L' t' v' P P' (missP M nd 0) s1 s2 s3 (if nd = 1 then 0 else s1) (if nd = 2 then 0 else s2) (if nd = 3 then 0 else s3) nd (.slice a m c) E := by
  obtain ⟨t', P', E, e1, e2, e3, e4, e5⟩ := h.hs.heard.beat hk hnd
  have hl := h.hs.heard.lives
  have hlp : lifeP P.lives nd = 1 := by rw [hl]; rcases hnd with rfl | rfl | rfl <;> rfl
  have hn := h.hs.heard.nodes
  obtain ⟨p0, p1, p2, p3, hpx⟩ := h.pbx
  have hpl := (Array.getElem?_eq_some_iff.1 hpx).1
  have hsl := (Array.getElem?_eq_some_iff.1 h.hs.arr).1
  have hK : KeepAt (fun Z => Z = fun i => i = sb ∨ i = pb) w hb b mb q L v P := by
    rintro Z rfl
    exact ⟨fun k hk => hk.elim (fun e => by rw [e]; exact hsl) (fun e => by rw [e]; exact hpl), h.keep⟩
  have hc := HHear_beat hE h.hs.hm hK h.hs.ready h.hs.heard.good nd 1 ⟨by omega, by rw [hn]; omega⟩ (by decide) (by rw [hlp]; decide) (fun h1 => by rw [hlp] at h1; exact absurd h1 (by decide))
  rw [e1] at hc
  refine hc.mono ?_
  rintro e w' ⟨a, c, L', v', he, h1, h2, h3, h4, h5⟩
  have hlen : (E ++ ownE P' nd).length = E.length + 2 := by rw [List.length_append, ownE_len, e3.two]
  simp only at he h1 h2 h5
  rw [hlen] at he h2
  have hns : ¬ HmF hb b mb q L sb := h.hs.notF
  have hnp : ¬ HmF hb b mb q L pb := h.hs.hm.notKind hpx (by decide) (by decide) (by decide)
  have hnu : ¬ HmF hb b mb q L ub := h.hs.hm.notPlan h.was
  have hL : ∀ k, HmF hb b mb q L' k → HmF hb b mb q L k ∨ w.heap.size ≤ k := by
    rintro k (rfl | rfl | rfl | rfl | hk)
    · exact .inl (.inl rfl)
    · exact .inl (.inr (.inl rfl))
    · exact .inl (.inr (.inr (.inl rfl)))
    · exact .inl (.inr (.inr (.inr (.inl rfl))))
    · exact (h4 k hk).imp (fun h => .inr (.inr (.inr (.inr h)))) id
  refine ⟨a, c, E.length, E.length + 2, L', t', v', P', E, he, rfl, rfl, ⟨by rw [e2]; exact h1, h5 _ rfl, (h3.block _ hsl hns).trans h.hs.arr, ⟨p0, p1, p2, p3, (h3.block _ hpl hnp).trans hpx⟩, ?_, h.ne, h.sbA, h.pbA, e3, fun n => ?_, e4, e5, h.hs.heard.two, by rw [← hub]; exact h2⟩⟩
  · exact h.was.moved h3 (fun k hk => .inl hk) hnu (fun k hk => hk.elim (fun hk => (hL k hk).imp .inl id) (fun hk => .inl (.inr hk)))
  · have h6 := h.hs.most n
    rw [missG_P]
    split <;> omega

/-- The node was heard of just now. -/
theorem HsC.since {wA w : World} {b mb sb pb ub : Nat} {kn j hb q : Nat} {L : TpL} {t : Tp} {v : Value} {P0 P : Pl} {M : List (Int × Int)} {s1 s2 s3 : Int} {nd : Int} {mv : Value} {E : List Pm} (hnd : nd = 1 ∨ nd = 2 ∨ nd = 3)
    (h : HsC wA w b mb sb pb ub kn j hb q L t v P0 P M s1 s2 s3 (if nd = 1 then 0 else s1) (if nd = 2 then 0 else s2) (if nd = 3 then 0 else s3) nd mv E) :
    HsC wA (w.setCell ⟨sb, nd.toNat, none⟩ (.int .i64 0)) b mb sb pb ub kn j hb q L t v P0 P M (if nd = 1 then 0 else s1) (if nd = 2 then 0 else s2) (if nd = 3 then 0 else s3) (if nd = 1 then 0 else s1) (if nd = 2 then 0 else s2) (if nd = 3 then 0 else s3) nd mv E := by
  have hu := upd_set1 w sb nd.toNat (.int .i64 0)
  obtain ⟨p0, p1, p2, p3, hpx⟩ := h.pbx
  have hns : ¬ HmF hb b mb q L sb := h.hm.notKind h.arr (by decide) (by decide) (by decide)
  have hne : pb ≠ sb := by
    rintro rfl
    rw [h.arr] at hpx
    simp at hpx
  obtain ⟨pa, la, pc, lc, wx, -⟩ := h.was
  refine ⟨h.hm.other hu hns h.sbA (h.keep.grow (fun k hk => .inl (hk.imp id .inl))), h.keep.upd hu (fun k hk => .inr (.inl hk)), ?_, ⟨p0, p1, p2, p3, (hu.block _ (Array.getElem?_eq_some_iff.1 hpx).1 hne).trans hpx⟩, h.was.moved hu (fun k hk => .inr (.inl hk)) (by have := h.ne; omega) (fun k hk => .inl hk), h.ne, h.sbA, h.pbA, h.heard, h.most, h.wants, h.chains, h.two, ?_⟩
  · rcases hnd with rfl | rfl | rfl
    · exact setCell_same (o := 1) (v := .int .i64 0) h.arr
    · exact setCell_same (o := 2) (v := .int .i64 0) h.arr
    · exact setCell_same (o := 3) (v := .int .i64 0) h.arr
  · refine h.row.upd hu (fun g hg e => ?_)
    have := h.row.lt g hg
    have := h.ne
    omega

/-- Behind the plan that is asked for anew. -/
structure HsD (wA w : World) (b mb sb pb ub : Nat) (kn j : Nat) (hb q : Nat) (L : TpL) (t : Tp) (v : Value) (P0 P : Pl) (M : List (Int × Int)) (s1 s2 s3 : Int) (nd : Int) (mv : Value) (E : List Pm) : Prop where
  hs : Hs wA w b mb sb kn j hb q L t v P M s1 s2 s3
  now : NowAt w (HsG hb b mb q sb pb L) pb P
  was : NowAt w (HsG hb b mb q sb pb L) ub P0
  wants : wantsP P nd = []
  chains : ∀ i (hj : i < P0.parts.length) (hj' : i < P.parts.length), P.parts[i].chain = P0.parts[i].chain
  two : P0.parts.length = 2
  row : MsOwn w (ub + 1) mv (E ++ ownE P nd)

theorem HsC.planned {wA w w' : World} {b mb sb pb ub : Nat} {kn j hb q : Nat} {L : TpL} {t : Tp} {v : Value} {P0 P : Pl} {M : List (Int × Int)} {s1 s2 s3 : Int} {nd : Int} {mv : Value} {E : List Pm} (h : HsC wA w b mb sb pb ub kn j hb q L t v P0 P M s1 s2 s3 s1 s2 s3 nd mv E)
    {pa la : Option Addr} {pc lc : Nat} (hf : PlanFrom w' w.heap.size (planV P pa pc la lc) P) (hb' : Below w.heap.size w w') :
    HsD wA ((((w'.setCell ⟨pb, 0, none⟩ (.int .i64 P.nodes)).setCell ⟨pb, 1, none⟩ (.int .i64 P.copies)).setCell ⟨pb, 2, none⟩ (.slice pa P.parts.length pc)).setCell ⟨pb, 3, none⟩ (.slice la P.lives.length lc)) b mb sb pb ub kn j hb q L t v P0 P M s1 s2 s3 nd mv E := by
  obtain ⟨p0, p1, p2, p3, hpx⟩ := h.pbx
  have hpl := (Array.getElem?_eq_some_iff.1 hpx).1
  have hsl := (Array.getElem?_eq_some_iff.1 h.arr).1
  have hpx' := (hb'.block _ hpl).trans hpx
  have hg : ∀ k, HsG hb b mb q sb pb L k → k < w.heap.size := by
    rintro k (hk | rfl | rfl)
    · exact h.hm.fLt k hk
    · exact hsl
    · exact hpl
  have hu : Upd (fun k => k = pb) w' ((((w'.setCell ⟨pb, 0, none⟩ (.int .i64 P.nodes)).setCell ⟨pb, 1, none⟩ (.int .i64 P.copies)).setCell ⟨pb, 2, none⟩ (.slice pa P.parts.length pc)).setCell ⟨pb, 3, none⟩ (.slice la P.lives.length lc)) :=
    (((upd_set1 w' pb 0 _).trans (upd_set1 _ pb 1 _)).trans (upd_set1 _ pb 2 _)).trans (upd_set1 _ pb 3 _)
  have hnp : ¬ HmF hb b mb q L pb := h.hm.notKind hpx (by decide) (by decide) (by decide)
  have hne : sb ≠ pb := by
    rintro rfl
    rw [h.arr] at hpx
    simp at hpx
  have hq := (PlanOff.of_from hf hg).upd hu (fun k hk => .inr (.inr hk))
  have hk' := (h.keep.below hb').upd hu (fun k hk => .inr (.inr hk))
  have hm' : HmW wA _ hb b mb q L t v P M t.life false := (h.hm.below hb').other hu hnp h.pbA ((h.keep.below hb').grow (fun k hk => .inl (hk.imp id .inr)))
  refine ⟨⟨hm', hk'.grow (fun k hk => .inl (hk.imp id .inl)), (hu.block _ (Nat.lt_of_lt_of_le hsl hb'.size) hne).trans ((hb'.block _ hsl).trans h.arr), h.heard, h.most⟩, ⟨pa, la, pc, lc, ?_, hq⟩, (h.was.below hb').moved hu (fun k hk => .inr (.inr hk)) (by have := h.ne; omega) (fun k hk => .inl hk), h.wants, h.chains, h.two, ?_⟩
  · exact setCell_same (o := 3) (v := .slice la P.lives.length lc) (setCell_same (o := 2) (v := .slice pa P.parts.length pc) (setCell_same (o := 1) (v := .int .i64 P.copies) (setCell_same (o := 0) (v := .int .i64 P.nodes) hpx')))
  · refine (h.row.below hb').upd hu (fun g hg e => ?_)
    have := h.row.lt g hg
    have := h.ne
    omega

/-- What the test behind a beat reads. -/
theorem HsD.reads {wA w : World} {b mb sb pb ub : Nat} {kn j hb q : Nat} {L : TpL} {t : Tp} {v : Value} {P0 P : Pl} {M : List (Int × Int)} {s1 s2 s3 : Int} {nd : Int} {a : Option Addr} {n m c : Nat} {E : List Pm} (h : HsD wA w b mb sb pb ub kn j hb q L t v P0 P M s1 s2 s3 nd (.slice a m c) E) (hn : n = E.length) (hm : m = n + 2) :
    ∃ (p1 o1 pc1 p2 o2 pc2 m1 mo : Nat) (lv : Value), a = some ⟨m1, mo, none⟩ ∧ m ≤ 9223372036854775807 ∧
      (∀ W, Below w.heap.size w W → Calls Tryz.prog 19 #[.agg #[.int .i64 P.nodes, .int .i64 P.copies, .slice (some ⟨p1, o1, none⟩) 2 pc1, lv], .int .i64 nd] W fun e w' => e = .returned (.slice none 0 0) ∧ Below W.heap.size W w') ∧
      ∀ k, k < 2 → ∃ (cl cc1 cc2 : Nat) (ca1 ca2 : Option Addr) (ep : Int), ∀ W, Below w.heap.size w W → W.cell? ⟨pb, 0, none⟩ = some (.int .i64 P.nodes) ∧ W.cell? ⟨pb, 1, none⟩ = some (.int .i64 P.copies) ∧ W.cell? ⟨pb, 2, none⟩ = some (.slice (some ⟨p1, o1, none⟩) 2 pc1) ∧ W.cell? ⟨pb, 3, none⟩ = some lv ∧ W.cell? ⟨ub, 2, none⟩ = some (.slice (some ⟨p2, o2, none⟩) 2 pc2) ∧
        W.cell? ⟨p1, o1 + k * 3 + 1, none⟩ = some (.slice ca1 cl cc1) ∧ W.cell? ⟨p1, o1 + k * 3, none⟩ = some (.int .i64 ep) ∧ W.cell? ⟨p2, o2 + k * 3 + 1, none⟩ = some (.slice ca2 cl cc2) ∧ W.cell? ⟨m1, mo + (n + k) * 38 + 4, none⟩ = some (.int .i64 ep) := by
  have two := h.hs.heard.two
  have two0 := h.two
  subst hm
  obtain ⟨pa, la, pc, lc, hpx, hpo⟩ := h.now
  obtain ⟨pa0, la0, pc0, lc0, hux, huo⟩ := h.was
  have hrd := hpo.rd
  obtain ⟨pv, lv, e, hP, -⟩ := hpo.rd
  simp only [Value.agg.injEq, Array.mk.injEq, List.cons.injEq, and_true, true_and] at e
  obtain ⟨rfl, rfl⟩ := e
  obtain ⟨pv0, lv0, e, hP0, -⟩ := huo.rd
  simp only [Value.agg.injEq, Array.mk.injEq, List.cons.injEq, and_true, true_and] at e
  obtain ⟨rfl, rfl⟩ := e
  obtain ⟨pa', pc', e, -, -, hc⟩ := hP.cells
  simp only [Value.slice.injEq, true_and] at e
  obtain ⟨rfl, rfl⟩ := e
  obtain ⟨pa0', pc0', e, -, -, hc0⟩ := hP0.cells
  simp only [Value.slice.injEq, true_and] at e
  obtain ⟨rfl, rfl⟩ := e
  obtain ⟨p1, o1, -, -, rfl, -⟩ := hc 0 (by omega)
  obtain ⟨p2, o2, -, -, rfl, -⟩ := hc0 0 (by omega)
  obtain ⟨ms, hmr, -, hme⟩ := h.row.rd
  have hlen : (E ++ ownE P nd).length = n + 2 := by rw [List.length_append, ownE_len, two, hn]
  rw [hlen] at hmr
  obtain ⟨m1, mo, mc, e, -, -, hml, hmc⟩ := Rd.at hmr (by omega)
  simp only [Value.slice.injEq, true_and] at e
  obtain ⟨rfl, rfl⟩ := e
  have hmx := hmr.maxlen
  rw [two] at hpx
  rw [two0] at hux
  refine ⟨p1, o1, pc, p2, o2, pc0, m1, mo, .slice la P.lives.length lc, rfl, by unfold maxLen at hmx; omega, fun W hb => ?_, fun k hk => ?_⟩
  · have h1 := hrd.below hb
    have h2 : PlanRd W (.agg #[.int .i64 P.nodes, .int .i64 P.copies, .slice (some ⟨p1, o1, none⟩) 2 pc, .slice la P.lives.length lc]) P := by rw [← two]; exact h1
    exact Wants_nil h2 (by omega) nd h.wants
  · obtain ⟨b1, f1, ca1, cc1, e, hl1, x0, x1, -, -⟩ := hc k (by omega)
    simp only [Option.some.injEq, Addr.mk.injEq, and_true] at e
    obtain ⟨rfl, rfl⟩ := e
    obtain ⟨b2, f2, ca2, cc2, e, hl2, -, y1, -, -⟩ := hc0 k (by omega)
    simp only [Option.some.injEq, Addr.mk.injEq, and_true] at e
    obtain ⟨rfl, rfl⟩ := e
    have hch := h.chains k (by omega) (by omega)
    rw [← hch] at y1
    have hEk : (E ++ ownE P nd)[n + k]'(by omega) = ⟨(k : Int), (P.parts[k]'(by omega)).epoch, (P.parts[k]'(by omega)).learner, nd, P.lives.length⟩ := by
      rw [List.getElem_append_right (by omega)]
      have : n + k - E.length = k := by omega
      simp only [this]
      exact ownE_at P nd k (by omega)
    obtain ⟨cm, hcm, hmg⟩ := hme.at (n + k) (by omega)
    rw [hEk] at hcm
    obtain ⟨ca, la', cl', cc', lc', rfl⟩ := hcm
    have hz := hmc ((n + k) * 38 + 4) _ (hmg 4 _ rfl)
    have hpl := (Array.getElem?_eq_some_iff.1 hpx).1
    have hul := (Array.getElem?_eq_some_iff.1 hux).1
    refine ⟨P.parts[k].chain.length, cc1, cc2, ca1, ca2, P.parts[k].epoch, fun W hb => ?_⟩
    have bl : ∀ {bb o : Nat} {u : Value}, w.cell? ⟨bb, o, none⟩ = some u → W.cell? ⟨bb, o, none⟩ = some u := fun hu => below_some hb hu (World.block_lt_of_cell? w _ hu)
    exact ⟨bl (cells_of hpx 0 _ rfl), bl (cells_of hpx 1 _ rfl), bl (cells_of hpx 2 _ rfl), bl (cells_of hpx 3 _ rfl), bl (cells_of hux 2 _ rfl), bl x1, bl x0, bl y1, bl (by simpa [Nat.add_assoc] using hz)⟩
end Go.Proofs.YtcpaaleogmiamaaGreatDoor
