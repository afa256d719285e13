/- The iterator of strand.Batches: what it hands over. -/
import Derived.Test.YtcpaaleogmiamaaGreatDoorMp29
import Derived.Test.YtcpaaleogmiamaaGreatDoorMp24
import Derived.Test.YtcpaaleogmiamaaGreatDoorMp20
import Derived.Shelf.Abstract
import Derived.Shelf.RegionOpen
import Derived.WalkKit
import Derived.OwnWalkIn
import Derived.TacticsInMore
import Derived.LoopNIn
import Derived.LoopIn
namespace Go.Proofs.YtcpaaleogmiamaaGreatDoor
open Go.RowKit
section
attribute [local go_sem] Oper.semAt_some

/-- What is known of a batch that comes: its records lie in a row of their own, made since the loop began. -/
def PreB (B : Nat) (x : Value × Batch) (W : World) : Prop := W.ownsRow B 84 4 x.1 x.2.recs.length (recCells x.2.recs)
theorem PreB.put {B : Nat} {x : Value × Batch} {A : World} {l : Nat} {o o' : Obj} (h : PreB B x A) (hl : A.heap[l]? = some o) (ho : o.isCells = false) : PreB B x (A.putObj l o') :=
  owns_upd h (upd_putObj A l o') (fun g hg e => by
    obtain ⟨cur, hc⟩ := owns_kind3 h g hg
    rw [e, hl] at hc
    cases hc
    cases ho)
theorem PreB.below {B : Nat} {x : Value × Batch} {A A' : World} (h : PreB B x A) (hb : Below A.heap.size A A') : PreB B x A' := owns_upd h (Upd.of_below (F := fun _ => False) hb) (fun _ _ h => h)

theorem batF_append (s m : List Sg) (off : Int) : batF (s ++ m) off = batF s off ++ batF m off := by simp [batF, allB]

set_option maxRecDepth 100000 in
set_option maxHeartbeats 4000000 in
theorem StIter_seq {w : World} {S : Nat → Prop} {sb tb : Nat} {x : St} {gv : Value} {m : List (Value × Sg)} {D : Nat → Prop} (h : StIn w S sb tb x gv m D) (hok : StOk x) (hsl : x.segs.length ≤ 1000000) (hll : ∀ g ∈ x.segs, g.list.length ≤ 1000000)
    {xb ob : Nat} {off : Int} (hx : w.cell? ⟨xb, 0, none⟩ = some (.pointer (some ⟨sb, 0, none⟩))) (ho : w.cell? ⟨ob, 0, none⟩ = some (.int .i64 off)) (hxb : xb < w.heap.size ∧ ob < w.heap.size) {G : Nat → Prop} (hG : ∀ k, G k → k < w.heap.size ∧ ¬ S k ∧ k ≠ xb ∧ k ≠ ob) :
    SeqP 8 Tryz.prog 149 #[.pointer (some ⟨xb, 0, none⟩), .pointer (some ⟨ob, 0, none⟩)] (fun y : Value × Batch => #[y.2.v y.1]) PreB G (fun xs => xs.map (·.2) = batF x.segs off) (fun pre => ∃ r, pre.map (·.2) ++ r = batF x.segs off ∧ pre ≠ []) w := by
  intro l J Jx W hbW hJ hJx hY h0 hl hlW
  have hi := h.below hbW
  obtain ⟨ga, gc, rfl, hml, -⟩ := hi.seg
  have c3 := hi.cells.2.2.2.1
  have x0 : W.cell? ⟨xb, 0, none⟩ = some (.pointer (some ⟨sb, 0, none⟩)) := (hbW.cell (p := ⟨xb, 0, none⟩) hxb.1).trans hx
  refine callsIn_of_wp Tryz.func149 rfl trivial ?_ rfl
  simp only [Tryz.ntmps149, List.size_toArray, List.length_cons, List.length_nil, Nat.reduceAdd, Nat.reduceSub, Array.replicate_succ, Array.replicate_zero, List.push_toArray, List.append_toArray, List.nil_append, List.cons_append]
  gi_wp2_with fail
  have hrd : Rd W 3 (.slice ga x.segs.length gc) m.length (sgCells m) := (Sl.of_owns hi.row).rd
  have hone : ∀ u ∈ sgCells m, u.oneCell' = true := by
    intro u hu
    obtain ⟨y, hy, hu⟩ := List.mem_flatMap.1 hu
    obtain ⟨la, lc, e, -⟩ := BsRd.cells (hi.lists y hy).here
    simp only [List.mem_cons, List.not_mem_nil, or_false] at hu
    rcases hu with rfl | rfl | rfl
    · rfl
    · rw [e]; rfl
    · rfl
  have hmx : m.length = x.segs.length := hi.len
  refine ⟨trivial, (callsIn_wide.2 (Clonesegs_any hrd hone (by omega))).mono ?_⟩
  rintro _ wl ⟨cv, rfl, hown, hb1⟩
  obtain ⟨ca, cc, rfl, -⟩ := (Sl.of_owns hown).shape
  rw [hmx] at hown ⊢
  have hJ0 := h0 wl hb1
  obtain ⟨C, hC⟩ : ∃ C, wl.heap.size = C := ⟨_, rfl⟩
  rw [hC] at hJ0
  have hWC : W.heap.size ≤ C := by rw [← hC]; exact hb1.size
  have hzw := hbW.size
  -- what lies as it lay through the rounds
  have hnH : ∀ k, k < W.heap.size → k ≠ l → ¬ G k → ¬ (G k ∨ C ≤ k ∨ k = l) := by
    rintro k h1 h2 h3 (h4 | h4 | h4)
    · exact h3 h4
    · omega
    · exact h2 h4
  have hS : ∀ k, S k → ¬ (G k ∨ C ≤ k ∨ k = l) := fun k hk => hnH k (hi.lt k hk) (by have := h.lt k hk; omega) (fun hg => (hG k hg).2.1 hk)
  have hsegs : ∀ W', Upd (fun k => G k ∨ C ≤ k ∨ k = l) wl W' → ∀ i (hik : i < x.segs.length), ∃ cb co la lc, ca = some ⟨cb, co, none⟩ ∧ W'.cell? ⟨cb, co + i * 3, none⟩ = some (.int .i64 x.segs[i].base) ∧ W'.cell? ⟨cb, co + i * 3 + 1, none⟩ = some (.slice la x.segs[i].list.length lc) ∧
      W'.cell? ⟨cb, co + i * 3 + 2, none⟩ = some (.int .i64 ((sgB x.segs[i].list).length : Int)) ∧ ∀ W2, Upd (fun k => G k ∨ C ≤ k ∨ k = l) wl W2 → BsRd W2 (.slice la x.segs[i].list.length lc) x.segs[i].list := by
    intro W' hu i hik
    have hik' : i < m.length := by omega
    have h1 := owns_upd hown hu (fun g hg => by
      have h2 := owns_lt hown g hg
      rintro (h4 | h4 | h4)
      · have := (hG g h4).1; omega
      · omega
      · omega)
    obtain ⟨cb, co, cap, e, _, _, _, hc⟩ := Rd.at (Sl.of_owns h1).rd (by omega)
    simp only [Value.slice.injEq, true_and] at e
    obtain ⟨q0, q1, q2⟩ := sgCells_get m i hik'
    have hl := hi.lists _ (List.getElem_mem hik')
    obtain ⟨la, lc, e2, -⟩ := BsRd.cells hl.here
    have ek : x.segs[i] = m[i].2 := by simp only [← hi.segs, List.getElem_map]
    rw [ek]
    have g1 := hc _ _ q1
    rw [e2] at g1
    refine ⟨cb, co, la, lc, e.1, hc _ _ q0, g1, hc _ _ q2, fun W2 hu2 => ?_⟩
    have h3 := ((hl.below hb1).upd hu2 (fun k hk _ => hS k (hi.apart k hk).1)).here
    rw [e2] at h3
    exact h3
  have hobs : ∀ W', Upd (fun k => G k ∨ C ≤ k ∨ k = l) wl W' → W'.cell? ⟨ob, 0, none⟩ = some (.int .i64 off) := by
    intro W' hu
    have e1 : W.cell? ⟨ob, 0, none⟩ = some (.int .i64 off) := (hbW.cell (p := ⟨ob, 0, none⟩) hxb.2).trans ho
    have e2 : wl.cell? ⟨ob, 0, none⟩ = some (.int .i64 off) := (hb1.cell (p := ⟨ob, 0, none⟩) (show ob < W.heap.size by omega)).trans e1
    exact upd_some hu e2 (hnH ob (by omega) (by omega) (fun hg => (hG ob hg).2.2.2 rfl))
  have HS := Lib.hid hsegs
  have HO := Lib.hid hobs
  have HJ0 := Lib.hid hJ0
  have HJ := Lib.hid (And.intro hJ hJx)
  have HY := Lib.hid hY
  have HC := Lib.hid (And.intro hC (And.intro hWC hzw))
  have HGD := Lib.hid hok.segs
  clear hsegs hobs hJ0 hJ hJx hY h0 hrd hone hown hb1 hbW hi h hS hnH hx ho c3 x0 hml hG hC hWC hzw hmx hok
  gi_wp2_with fail
  have hnl : (x.segs.length : Int) ≤ 1000000 := by omega
  gi_loopw [16] (fun v16 wr => ∃ (i : Nat) (pre : List (Value × Batch)), i ≤ x.segs.length ∧ v16 = .int .i64 i ∧ J C pre wr ∧ Upd (fun k => G k ∨ C ≤ k ∨ k = l) wl wr ∧ pre.map (·.2) = batF (x.segs.take i) off) (fun v16 _ => x.segs.length - (intOf v16).toNat)
  case atStart => exact ⟨0, [], Nat.zero_le _, rfl, HJ0.out, Upd.refl _ _, rfl⟩
  case round =>
    obtain ⟨i, pre, hi, rfl, hj, hu, hp⟩ := hrel
    by_cases hit : i < x.segs.length
    · obtain ⟨cb, co, la, lc, rfl, s0, s1, s2, hbs⟩ := HS.out _ hu i hit
      obtain ⟨g, hg⟩ : ∃ g, x.segs[i] = g := ⟨_, rfl⟩
      have hgm : g ∈ x.segs := by rw [← hg]; exact List.getElem_mem _
      have htk : x.segs.take (i + 1) = x.segs.take i ++ [g] := by rw [List.take_add_one, List.getElem?_eq_getElem hit, hg]; rfl
      rw [hg] at s0 s1 s2 hbs
      have hgo := HGD.out g hgm
      have hgl := hll g hgm
      have j1 : (i : Int) < (x.segs.length : Int) := by omega
      have j2 : (0 : Int) ≤ (i : Int) := by omega
      have HBS := Lib.hid hbs
      have HU := Lib.hid hu
      have HJ1 := Lib.hid hj
      have HP := Lib.hid hp
      have HTK := Lib.hid htk
      clear hbs hu hj hp htk hg hgm
      gi_wp2_with fail
      obtain ⟨w3, hw3⟩ : ∃ w3, w3 = wr.alloc (.cells #[.int .i64 g.base, .slice la g.list.length lc, .int .i64 ((sgB g.list).length : Int)] 158) := ⟨_, rfl⟩
      have hb3 : Below wr.heap.size wr w3 := by rw [hw3]; exact below_alloc _ _
      rw [← hw3]
      have HR3 := Lib.hid (And.intro (HU.out.trans (Upd.of_below hb3)) (HJ.out.1 C pre wr w3 HJ1.out hb3))
      obtain ⟨rb, hrb⟩ : ∃ rb, wr.heap.size = rb := ⟨_, rfl⟩
      rw [hrb]
      clear hw3 hb3 hrb s0 s1 s2
      have hgl2 : (g.list.length : Int) ≤ 1000000 := by omega
      gi_loopw [23] (fun v23 ws => ∃ (k : Nat) (pre2 : List (Value × Batch)), k ≤ g.list.length ∧ v23 = .int .i64 k ∧ J C pre2 ws ∧ Upd (fun k => G k ∨ C ≤ k ∨ k = l) wl ws ∧ pre2.map (·.2) = batF (x.segs.take i) off ++ (g.list.take k).filter (fun b => decide (off < b.base + b.count))) (fun v23 _ => g.list.length - (intOf v23).toNat)
      case atStart => exact ⟨0, pre, Nat.zero_le _, rfl, HR3.out.2, HR3.out.1, by simp [HP.out]⟩
      case round =>
        obtain ⟨k, pre2, hk, rfl, hj2, hu2, hp2⟩ := hrel
        by_cases hkt : k < g.list.length
        · obtain ⟨ba, bcap, e, -, -, hbc⟩ := (HBS.out _ hu2).cells
          simp only [Value.slice.injEq, true_and] at e
          obtain ⟨bb, bo, ra, rc, hla, hbl, b0, b1, b2, b3, b4, b5, hrd⟩ := hbc k hkt
          rw [← e.1] at hla
          subst hla
          obtain ⟨bt, hbt⟩ : ∃ bt, g.list[k] = bt := ⟨_, rfl⟩
          have htk2 : g.list.take (k + 1) = g.list.take k ++ [bt] := by rw [List.take_add_one, List.getElem?_eq_getElem hkt, hbt]; rfl
          have hgd := hgo.2.2.good bt (by rw [← hbt]; exact List.getElem_mem _)
          rw [hbt] at b0 b1 b2 b3 b4 b5 hrd
          have hGB := (goodB_iff bt).1 hgd
          have hsum : wrap64 (bt.base + bt.count) = bt.base + bt.count := by
            rw [← IntWalk.i64_left]
            have h1 := hGB.base; have h2 := hGB.count
            exact IntWalk.i64_in _ (by omega)
          have hrl : bt.recs.length ≤ 8 := by have := hGB.len; have := hGB.count; omega
          have o1 : ∀ o, (wr.alloc o).cell? ⟨ob, 0, none⟩ = some (.int .i64 off) := fun o => HO.out _ (hu2.trans (Upd.of_below (below_alloc wr o)))
          have j3 : (k : Int) < (g.list.length : Int) := by omega
          have j4 : (0 : Int) ≤ (k : Int) := by omega
          have HU2 := Lib.hid (And.intro hu2 (And.intro hj2 hp2))
          have HRD := Lib.hid hrd
          have HTK2 := Lib.hid htk2
          have HRL := Lib.hid hrl
          clear hu2 hj2 hp2 hrd htk2 hgd hGB hbt hbl e hrl
          by_cases hle : bt.base + bt.count ≤ off
          · have hrel : ∃ (k2 : Nat) (pre3 : List (Value × Batch)), k2 ≤ g.list.length ∧ Value.int .i64 ((k : Int) + 1) = .int .i64 k2 ∧ k2 = k + 1 ∧ ∀ o, J C pre3 (wr.alloc o) ∧ Upd (fun k => G k ∨ C ≤ k ∨ k = l) wl (wr.alloc o) ∧ pre3.map (·.2) = batF (x.segs.take i) off ++ (g.list.take k2).filter (fun b => decide (off < b.base + b.count)) := by
              refine ⟨k + 1, pre2, by omega, by simp, rfl, fun o => ⟨HJ.out.1 C pre2 wr _ HU2.out.2.1 (below_alloc _ _), HU2.out.1.trans (Upd.of_below (below_alloc _ _)), ?_⟩⟩
              rw [HU2.out.2.2, HTK2.out, List.filter_append]
              simp only [List.filter_cons, List.filter_nil]
              rw [if_neg (by simpa using hle), List.append_nil]
            have HREL := Lib.hid hrel
            clear hrel HU2 HRD HTK2
            gi_wp2_with fail
            go_roundw
            case rel =>
              obtain ⟨k2, pre3, h1, h2, h3, h4⟩ := HREL.out
              exact ⟨k2, pre3, h1, by rw [h3]; go_num, (h4 _).1, (h4 _).2.1, (h4 (.cells #[] 0)).2.2⟩
            case measure => simp [intOf]; omega
          · have hle2 : ¬ bt.base + bt.count ≤ off := hle
            gi_wp2_with fail
            obtain ⟨xb2, hxb2⟩ : ∃ xb2, wr.heap.size = xb2 := ⟨_, rfl⟩
            obtain ⟨w4, hw4⟩ : ∃ w4, w4 = wr.alloc (.cells #[.int .i64 bt.base, .int .i64 bt.count, .int .i64 bt.prod, .int .i64 bt.seq, .int .i64 bt.time, .slice ra bt.recs.length rc] 40) := ⟨_, rfl⟩
            have hb4 : Below wr.heap.size wr w4 := by rw [hw4]; exact below_alloc _ _
            have hc4 : w4.heap[xb2]? = some (.cells #[.int .i64 bt.base, .int .i64 bt.count, .int .i64 bt.prod, .int .i64 bt.seq, .int .i64 bt.time, .slice ra bt.recs.length rc] 40 (0, 0)) := by rw [hw4, ← hxb2]; exact heap_alloc_new _ _
            have hz4 : w4.heap.size = xb2 + 1 := by rw [hw4, ← hxb2]; simp
            rw [← hw4, hxb2]
            have hcl := CloneRecs_any (HRD.out.below hb4) (by have := HRL.out; omega)
            have HCL := Lib.hid hcl
            have H4 := Lib.hid (And.intro hb4 (And.intro hc4 (And.intro hz4 hxb2)))
            clear hw4 hb4 hc4 hz4 hxb2 hcl b0 b1 b2 b3 b4 b5 HRD o1
            refine ⟨trivial, (callsIn_wide.2 HCL.out).mono ?_⟩
            rintro _ w5 ⟨rv, rfl, hro, hb5⟩
            obtain ⟨va, vc, rfl, -⟩ := (Sl.of_owns hro).shape
            have hc5 : w5.heap[xb2]? = some (.cells #[.int .i64 bt.base, .int .i64 bt.count, .int .i64 bt.prod, .int .i64 bt.seq, .int .i64 bt.time, .slice ra bt.recs.length rc] 40 (0, 0)) := (hb5.block xb2 (Array.getElem?_eq_some_iff.1 H4.out.2.1).1).trans H4.out.2.1
            have hc6 : (w5.setCell ⟨xb2, 5, none⟩ (.slice va bt.recs.length vc)).heap[xb2]? = some (.cells #[.int .i64 bt.base, .int .i64 bt.count, .int .i64 bt.prod, .int .i64 bt.seq, .int .i64 bt.time, .slice va bt.recs.length vc] 40 (0, 0)) := setCell_same (o := 5) (v := .slice va bt.recs.length vc) hc5
            obtain ⟨w6, hw6⟩ : ∃ w6, w6 = w5.setCell ⟨xb2, 5, none⟩ (.slice va bt.recs.length vc) := ⟨_, rfl⟩
            have hu6 := upd_set1 w5 xb2 5 (.slice va bt.recs.length vc)
            rw [← hw6] at hc6 hu6
            have hz4 := H4.out.2.2.1
            have hzr := H4.out.2.2.2
            have hb46 : Below wr.heap.size wr w6 := (H4.out.1.trans (hb5.mono H4.out.1.size)).trans (hu6.toBelow (by have := hb5.size; omega) (fun k e => by omega))
            have hCr : C ≤ wr.heap.size := by rw [← HC.out.1]; exact HU2.out.1.size
            have hpre : PreB wr.heap.size (.slice va bt.recs.length vc, bt) w6 := by
              refine owns_mono (owns_upd hro hu6 (fun q hq e => ?_)) ?_
              · have := (owns_lt hro q hq).1; omega
              · omega
            have hu06 : Upd (fun k => G k ∨ C ≤ k ∨ k = l) wl w6 := HU2.out.1.trans (Upd.of_below hb46)
            have hC6 : C ≤ w6.heap.size := Nat.le_trans hCr hb46.size
            have z5 : w5.frozen? ⟨xb2, 5, none⟩ = false := frozen_of hc5
            have k5 : w5.cell? ⟨xb2, 5, none⟩ = some (.slice ra bt.recs.length rc) := cells_of hc5 5 _ rfl
            have q0 : w6.cell? ⟨xb2, 0, none⟩ = some (.int .i64 bt.base) := cells_of hc6 0 _ rfl
            have q1 : w6.cell? ⟨xb2, 1, none⟩ = some (.int .i64 bt.count) := cells_of hc6 1 _ rfl
            have q2 : w6.cell? ⟨xb2, 2, none⟩ = some (.int .i64 bt.prod) := cells_of hc6 2 _ rfl
            have q3 : w6.cell? ⟨xb2, 3, none⟩ = some (.int .i64 bt.seq) := cells_of hc6 3 _ rfl
            have q4 : w6.cell? ⟨xb2, 4, none⟩ = some (.int .i64 bt.time) := cells_of hc6 4 _ rfl
            have q5 : w6.cell? ⟨xb2, 5, none⟩ = some (.slice va bt.recs.length vc) := cells_of hc6 5 _ rfl
            have hmap : (pre2 ++ [((Value.slice va bt.recs.length vc), bt)]).map (·.2) = batF (x.segs.take i) off ++ (g.list.take (k + 1)).filter (fun b => decide (off < b.base + b.count)) := by
              rw [List.map_append, HU2.out.2.2, HTK2.out, List.filter_append]
              simp only [List.map_cons, List.map_nil, List.filter_cons, List.filter_nil]
              rw [if_pos (by simpa using hle), List.append_assoc]
            have hwhole : batF (x.segs.take i) off ++ (g.list.take (k + 1)).filter (fun b => decide (off < b.base + b.count)) ++ ((g.list.drop (k + 1)).filter (fun b => decide (off < b.base + b.count)) ++ batF (x.segs.drop (i + 1)) off) = batF x.segs off := by
              conv => rhs; rw [← List.take_append_drop (i + 1) x.segs, HTK.out, batF_append, batF_append]
              rw [show batF [g] off = (g.list.take (k + 1)).filter (fun b => decide (off < b.base + b.count)) ++ (g.list.drop (k + 1)).filter (fun b => decide (off < b.base + b.count)) from by
                rw [← List.filter_append, List.take_append_drop]; simp [batF, allB]]
              simp only [List.append_assoc]
            have HM := Lib.hid (And.intro hmap hwhole)
            clear hmap hwhole
            obtain ⟨fn, tmps, assign, body, hy, hR⟩ := HY.out C pre2 (.slice va bt.recs.length vc, bt) wr w6 HC.out.2.1 hCr HU2.out.2.1 hb46 hpre ⟨_, by rw [HM.out.1]; exact HM.out.2, by simp⟩
            simp only [Batch.v] at hy
            have HR := Lib.hid hR
            have H6 := Lib.hid (And.intro hu06 hC6)
            rw [hw6] at hy q0 q1 q2 q3 q4 q5
            clear hR hpre hu06 hC6 hb46 hro hb5 hc5 hc6 hu6 HCL H4 hz4 hzr hCr
            gi_wp2_with fail
            rw [← hw6]
            clear hw6 hy q0 q1 q2 q3 q4 q5 z5 k5 HU2 HTK2
            refine HR.out.mono ?_
            rintro e B (⟨rfl, hJ3, hk3⟩ | ⟨rfl, hJx3⟩)
            · have H7 := Lib.hid (And.intro hJ3 (H6.out.1.trans hk3))
              clear hJ3 hk3 HR H6
              gi_wp2_with fail
              go_roundw
              case rel => exact ⟨k + 1, _, by omega, by go_num, H7.out.1, H7.out.2, HM.out.1⟩
              case measure => simp [intOf]; omega
            · have H7 := Lib.hid hJx3
              clear hJx3 HR H6
              gi_wp2_with fail
              refine bodyPost_ret (results_none rfl _ _ _) rfl ?_
              exact ⟨⟨_, rfl⟩, .inr ⟨C, _, ⟨_, by rw [HM.out.1]; exact HM.out.2, by simp⟩, H7.out⟩⟩
        · obtain rfl : k = g.list.length := by omega
          have hb : batF (x.segs.take i) off ++ g.list.filter (fun b => decide (off < b.base + b.count)) = batF (x.segs.take (i + 1)) off := by
            rw [HTK.out]
            simp [batF, allB, List.filter_append]
          rw [List.take_length, hb] at hp2
          have HP2 := Lib.hid (And.intro hj2 (And.intro hu2 hp2))
          clear hj2 hu2 hp2 hb
          gi_wp2_with fail
          go_roundw
          case rel => exact ⟨i + 1, pre2, by omega, by go_num, HP2.out.1, HP2.out.2.1, HP2.out.2.2⟩
          case measure => simp [intOf]; omega
    · obtain rfl : i = x.segs.length := by omega
      rw [List.take_length] at hp
      gi_wp2
      go_end0
      exact ⟨⟨_, rfl⟩, .inl ⟨C, pre, hp, hj⟩⟩
end
end Go.Proofs.YtcpaaleogmiamaaGreatDoor
