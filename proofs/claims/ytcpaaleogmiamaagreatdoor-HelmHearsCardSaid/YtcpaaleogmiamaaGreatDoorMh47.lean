/- The walk of HelmHears. -/
import Derived.Test.YtcpaaleogmiamaaGreatDoorMh45
import Derived.Test.YtcpaaleogmiamaaGreatDoorMh46
namespace Go.Proofs.YtcpaaleogmiamaaGreatDoor
open Go.RowKit

set_option maxRecDepth 100000 in
set_option maxHeartbeats 16000000 in
theorem HHears_any {w : World} {bv : Value} {bs : List Int} (hE : Env w) (hp : IntsRd w bv bs) :
    Calls Tryz.prog 3 #[bv] w fun e w' => e = .returned (.bool true) ∧ Below w.heap.size w w' := by
  obtain ⟨pa, pc, rfl, -, hpm, -⟩ := hp.cells
  have PL : (bs.length : Int) ≤ 9223372036854775807 := by unfold maxLen at hpm; omega
  have HPI := Lib.hid hp
  have HE := Lib.hid hE
  clear hp hE hpm
  go_enter Tryz.func3, Tryz.ntmps3
  go_wp2_with fail
  refine (L13awake_any HE.out).mono ?_
  rintro _ w2 ⟨rfl, hb2⟩
  have HB2 := Lib.hid hb2
  clear hb2
  go_upto_region 4 with fail
  obtain ⟨wA, hwA⟩ : ∃ wA, wA = w2.alloc (.cells #[.int .i64 3, .int .i64 0, .int .i64 2, .int .i64 3, .int .i64 0, .int .i64 0, .int .i64 0, .int .i64 0] 25) := ⟨_, rfl⟩
  obtain ⟨cb, hcb⟩ : ∃ cb, w2.heap.size = cb := ⟨_, rfl⟩
  have hbA : Below w.heap.size w wA := by rw [hwA]; exact HB2.out.trans ((below_alloc w2 _).mono HB2.out.size)
  have hxA : wA.heap[cb]? = some (.cells #[.int .i64 3, .int .i64 0, .int .i64 2, .int .i64 3, .int .i64 0, .int .i64 0, .int .i64 0, .int .i64 0] 25 (0, 0)) := by rw [hwA, ← hcb]; exact heap_alloc_new _ _
  have hcf : ∀ W, Below wA.heap.size wA W → W.cell? ⟨cb, 0, none⟩ = some (.int .i64 3) ∧ W.cell? ⟨cb, 1, none⟩ = some (.int .i64 0) ∧ W.cell? ⟨cb, 2, none⟩ = some (.int .i64 2) ∧ W.cell? ⟨cb, 3, none⟩ = some (.int .i64 3) ∧
      W.cell? ⟨cb, 4, none⟩ = some (.int .i64 0) ∧ W.cell? ⟨cb, 5, none⟩ = some (.int .i64 0) ∧ W.cell? ⟨cb, 6, none⟩ = some (.int .i64 0) ∧ W.cell? ⟨cb, 7, none⟩ = some (.int .i64 0) := by
    intro W hb
    have hx := (hb.block _ (Array.getElem?_eq_some_iff.1 hxA).1).trans hxA
    exact ⟨cells_of hx 0 _ rfl, cells_of hx 1 _ rfl, cells_of hx 2 _ rfl, cells_of hx 3 _ rfl, cells_of hx 4 _ rfl, cells_of hx 5 _ rfl, cells_of hx 6 _ rfl, cells_of hx 7 _ rfl⟩
  have hEA := HE.out.below hbA
  have hPA := HPI.out.below hbA
  rw [← hwA, hcb]
  have HCF := Lib.hid hcf
  have HWA := Lib.hid (And.intro hbA (And.intro hEA hPA))
  clear hwA hbA hxA hcf hEA hPA HE HB2 HPI hcb
  have htn : ∀ W, Below wA.heap.size wA W → Calls Tryz.prog 15 #[.int .i64 1048576] W fun e w' => ∃ b mb, e = .returned (.pointer (some ⟨b, 0, none⟩)) ∧ TpAt w' b mb [] (newT 1048576) ∧ (∀ k, TpF b mb [] k → wA.heap.size ≤ k) ∧ Below wA.heap.size wA w' := by
    intro W hW
    refine (TNew_from 1048576 W).mono ?_
    rintro e w' ⟨b, mb, h1, h2, h3, h4⟩
    exact ⟨b, mb, h1, h2, fun k hk => Nat.le_trans hW.size (h3 k hk), hW.trans (h4.mono hW.size)⟩
  have HTN := Lib.hid htn
  clear htn
  refine wp_region_held_drew (S := fun W' => Below wA.heap.size wA W') (by kernel_rfl) (Below.refl _ _).drew (fun hHeld => ?_)
  refine wpAnyH_take (i := 1) (v := .agg #[.int .i64 3, .int .i64 0, .int .i64 2, .int .i64 3, .int .i64 0, .int .i64 0, .int .i64 0, .int .i64 0]) rfl (by kernel_rfl) (by kernel_rfl) (by kernel_rfl) (fun _ _ _ h => h) (Or.inl ⟨by kernel_rfl, ?_⟩) (by assumption) ?_
  · intro w hSw
    try dsimp only at hSw
    obtain ⟨f0, f1, f2, f3, f4, f5, f6, f7⟩ := HCF.out w hSw
    go_simp
    try with_reducible rfl
  try simp only [Act.put, List.setIfInBounds_toArray, List.set_cons_zero, List.set_cons_succ, List.getElem_toArray, List.getElem_cons_zero, List.getElem_cons_succ]
  refine wpAnyH_ready (rs := [0]) (by kernel_rfl) (by simp) ?_
  refine AllReadyH.cons rfl (fun K hK => ?_) AllReadyH.nil
  go_simp
  go_at_call 15
  refine (HTN.out _ (Below.refl _ _).drew).mono ?_
  rintro _ w1 ⟨b, mb, rfl, ht1, hab, hb1⟩
  refine hK.out _ _ hb1 (fun hHeld1 => ?_)
  clear hK K hHeld
  try simp only [Act.put, List.setIfInBounds_toArray, List.set_cons_zero, List.set_cons_succ, List.getElem_toArray, List.getElem_cons_zero, List.getElem_cons_succ]
  have hc0 := calm_new (room := 1048576) (by omega) hs0
  have hop := hsOpen HWA.out.2.1 hb1 hab ht1 rfl (openR_new 1048576 hs0)
  generalize newT 1048576 = t0 at *
  have HC0 := Lib.hid hc0
  have HOP := Lib.hid hop
  clear hc0 hop ht1 hab
  refine wpAnyH_ready (rs := [2]) (by kernel_rfl) (by simp) ?_
  refine AllReadyH.cons rfl (fun K hK => ?_) AllReadyH.nil
  go_simp
  go_at_call 14
  refine (HOP.out).mono ?_
  rintro _ w3 ⟨L0, hb, q, v0, rfl, hm3⟩
  refine hK.out _ _ hm3.base (fun hHeld3 => ?_)
  clear hK K hHeld1 hb1
  try simp only [Act.put, List.setIfInBounds_toArray, List.set_cons_zero, List.set_cons_succ, List.getElem_toArray, List.getElem_cons_zero, List.getElem_cons_succ]
  refine wpAnyH_take (i := 3) (v := .tuple #[.pointer (some ⟨hb, 0, none⟩), .int .i64 0]) rfl (by kernel_rfl) (by kernel_rfl) (by kernel_rfl) (fun _ _ _ h => h) (Or.inl ⟨by kernel_rfl, ?_⟩) (by assumption) ?_
  · intro w hSw
    try dsimp only at hSw
    go_simp
    try with_reducible rfl
  try simp only [Act.put, List.setIfInBounds_toArray, List.set_cons_zero, List.set_cons_succ, List.getElem_toArray, List.getElem_cons_zero, List.getElem_cons_succ]
  refine wpAnyH_take (i := 4) (v := .pointer (some ⟨hb, 0, none⟩)) rfl (by kernel_rfl) (by kernel_rfl) (by kernel_rfl) (fun _ _ _ h => h) (Or.inl ⟨by kernel_rfl, ?_⟩) (by assumption) ?_
  · intro w hSw
    try dsimp only at hSw
    go_simp
    try with_reducible rfl
  try simp only [Act.put, List.setIfInBounds_toArray, List.set_cons_zero, List.set_cons_succ, List.getElem_toArray, List.getElem_cons_zero, List.getElem_cons_succ]
  refine wpAnyH_take (i := 5) (v := .int .i64 0) rfl (by kernel_rfl) (by kernel_rfl) (by kernel_rfl) (fun _ _ _ h => h) (Or.inl ⟨by kernel_rfl, ?_⟩) (by assumption) ?_
  · intro w hSw
    try dsimp only at hSw
    go_simp
    try with_reducible rfl
  try simp only [Act.put, List.setIfInBounds_toArray, List.set_cons_zero, List.set_cons_succ, List.getElem_toArray, List.getElem_cons_zero, List.getElem_cons_succ]
  refine wpAnyH_take (i := 6) (v := .pointer (some ⟨hb, 0, none⟩)) rfl (by kernel_rfl) (by kernel_rfl) (by kernel_rfl) (fun _ _ _ h => h) (Or.inl ⟨by kernel_rfl, ?_⟩) (by assumption) ?_
  · intro w hSw
    try dsimp only at hSw
    go_simp
    try with_reducible rfl
  try simp only [Act.put, List.setIfInBounds_toArray, List.set_cons_zero, List.set_cons_succ, List.getElem_toArray, List.getElem_cons_zero, List.getElem_cons_succ]
  refine wpAnyH_take (i := 7) (v := .int .i64 0) rfl (by kernel_rfl) (by kernel_rfl) (by kernel_rfl) (fun _ _ _ h => h) (Or.inl ⟨by kernel_rfl, ?_⟩) (by assumption) ?_
  · intro w hSw
    try dsimp only at hSw
    go_simp
    try with_reducible rfl
  try simp only [Act.put, List.setIfInBounds_toArray, List.set_cons_zero, List.set_cons_succ, List.getElem_toArray, List.getElem_cons_zero, List.getElem_cons_succ]
  refine wpAnyH_done (by kernel_rfl) ?_ _
  have HM3 := Lib.hid hm3
  clear hm3 HOP HTN hHeld3
  go_wp2
  go_loopg [6] 3 (fun gk v6 wt => ∃ (k : Nat) (L : TpL) (t : Tp) (v : Value), k ≤ 3 ∧ gk = 3 - k ∧ v6 = .int .i64 ((k : Int) + 1) ∧ HmW wA wt hb b mb q L t v (hsP k) (hsM k) t.life false ∧ Calm hs0 t (hsP k) k)
  case atStart => exact ⟨0, L0, t0, v0, by omega, rfl, rfl, HM3.out, HC0.out⟩
  case round =>
    obtain ⟨k, L, t, v, hk, rfl, rfl, hm, hc⟩ := hrel
    by_cases hkt : k < 3
    · obtain ⟨g1, g2, g3, g4, g5⟩ := hs_first k hkt
      obtain ⟨h1, t1, E1, h2, h3, h4⟩ := g5 t hc
      have hrd : readyB t t.life false = false := by obtain ⟨es, h1, -⟩ := hc.disk; simp [readyB, h1.down]
      have hhr := HHear_beat HWA.out.2.1 hm KeepAt.none hrd g1 ((k : Int) + 1) 1 g2 (by decide) (by rw [g3]; decide) (fun _ => .inl h1)
      rw [h2, g4] at hhr
      have HHR := Lib.hid hhr
      have H1 := Lib.hid (And.intro h3 h4)
      have j1 : (k : Int) + 1 ≤ 3 := by omega
      clear g1 g2 g3 g4 g5 h1 h2 h3 h4 hrd hhr hm hc
      go_wp2_with fail
      refine HHR.out.mono ?_
      rintro _ w4 ⟨a4, c4, L4, v4, rfl, hm4, -⟩
      have HM4 := Lib.hid hm4
      clear hm4
      go_wp2
      go_roundg (3 - (k + 1))
      case measure => omega
      case rel => exact ⟨k + 1, L4, t1, v4, by omega, rfl, by go_num, by rw [H1.out.2]; exact HM4.out, H1.out.1⟩
    · have j1 : ¬ (k : Int) + 1 ≤ 3 := by omega
      obtain rfl : k = 3 := by omega
      have H3 := Lib.hid (And.intro hm hc)
      clear hm hc hkt hk
      go_upto_region 14 with fail
      obtain ⟨sb, hsb⟩ : ∃ sb, wr.heap.size = sb := ⟨_, rfl⟩
      obtain ⟨w5, hw5⟩ : ∃ w5, w5 = wr.alloc (.cells (sinceA 0 0 0) 48) := ⟨_, rfl⟩
      have hs5 : Hs wA w5 b mb sb 3 0 hb q L t v hs3 (hsM 3) 0 0 0 := by
        refine ⟨?_, ?_, ?_, Heard.begin H3.out.2 (hsM 3) rfl rfl rfl, fun n => ?_⟩
        · rw [hw5]; exact H3.out.1.below (below_alloc _ _)
        · have h2 : PlanOff wr (fun i => HmF hb b mb q L i ∨ i = sb) v hs3 := H3.out.1.hm.plan.grow (fun k hk => hk.imp id (fun e => by omega))
          rw [hw5]; exact h2.below (below_alloc _ _)
        · rw [hw5, ← hsb]; exact heap_alloc_new _ _
        · have : missG (hsM 3) n = 0 := by
            show missG (missP (missP (missP [] 1 0) 2 0) 3 0) n = 0
            simp only [missG_P]
            repeat' split
            all_goals rfl
          rw [this]
          exact ⟨Int.le_refl _, Int.le_refl _⟩
      have hsbA : wA.heap.size ≤ sb := by have := H3.out.1.base.size; omega
      have HS5 := Lib.hid (And.intro hs5 hsbA)
      rw [← hw5, hsb]
      clear hw5 hs5 hsb H3 HM3 HC0 HCF hsbA
      generalize hs3 = P5 at *
      go_wp2
      go_loopg [10] bs.length (fun gk v10 wt => ∃ (i : Nat) (L : TpL) (t : Tp) (v : Value) (P : Pl) (M : List (Int × Int)) (s1 s2 s3 : Int), i ≤ bs.length ∧ i ≤ 60 ∧ gk = bs.length - i ∧ v10 = .int .i64 i ∧ Hs wA wt b mb sb (3 + 5 * i) i hb q L t v P M s1 s2 s3)
      case atStart => exact ⟨0, L, t, v, _, _, 0, 0, 0, Nat.zero_le _, by omega, rfl, rfl, HS5.out.1⟩
      case round =>
        obtain ⟨i, L, t, v, P, M, s1, s2, s3, hi, hi6, rfl, rfl, hh⟩ := hrel
        by_cases hin : i < bs.length ∧ i < 60
        · obtain ⟨hil, hi60⟩ := hin
          have j1 : (i : Int) < (bs.length : Int) := by omega
          have j2 : (0 : Int) ≤ (i : Int) := by omega
          have j3 : (i : Int) < 60 := by omega
          obtain ⟨y1, y2, y3, yf⟩ := hh.cells
          obtain ⟨b1, b2, b3⟩ := hh.bounds
          have yf1 := yf 1
          have yf2 := yf 2
          have yf3 := yf 3
          have q1 : wrap64 (s1 + 1) = s1 + 1 := IntWalk.wrap64_in _ (by omega)
          have q2 : wrap64 (s2 + 1) = s2 + 1 := IntWalk.wrap64_in _ (by omega)
          have q3 : wrap64 (s3 + 1) = s3 + 1 := IntWalk.wrap64_in _ (by omega)
          have HH := Lib.hid hh
          clear hh yf b1 b2 b3
          go_upto_region 17 with fail
          go_wp2
          refine wp_loop_rounds 4 ?_
          rw [rounds_succ]; go_wp2
          rw [rounds_succ]; go_wp2
          rw [rounds_succ]; go_wp2
          rw [rounds_succ]
          go_upto_region 21 with fail
          obtain ⟨w6, hw6⟩ : ∃ w6, w6 = ((wr.setCell ⟨sb, 1, none⟩ (.int .i64 (s1 + 1))).setCell ⟨sb, 2, none⟩ (.int .i64 (s2 + 1))).setCell ⟨sb, 3, none⟩ (.int .i64 (s3 + 1)) := ⟨_, rfl⟩
          have hu6 : Upd (fun x => x = sb) wr w6 := by rw [hw6]; exact ((upd_set1 wr sb 1 _).trans (upd_set1 _ sb 2 _)).trans (upd_set1 _ sb 3 _)
          have hx6 : w6.heap[sb]? = some (.cells (sinceA (s1 + 1) (s2 + 1) (s3 + 1)) 48 (0, 0)) := by
            rw [hw6]
            exact setCell_same (o := 3) (v := .int .i64 (s3 + 1)) (setCell_same (o := 2) (v := .int .i64 (s2 + 1)) (setCell_same (o := 1) (v := .int .i64 (s1 + 1)) HH.out.arr))
          obtain ⟨hm6, ho6, -⟩ := HH.out.moved HS5.out.2 hu6 hx6
          obtain ⟨t7, P7, E7, d1, d2, d3, d4, d5, d6⟩ := HH.out.heard.tick (by omega)
          have htk := HTick_any (K0 := fun Z => Z = fun x => x = sb) HWA.out.2.1 hm6 (by rintro Z rfl; exact ⟨fun k e => by rw [e]; exact (Array.getElem?_eq_some_iff.1 hx6).1, ho6⟩) HH.out.ready HH.out.heard.good (fun n => by have := HH.out.most n; omega)
          rw [d1] at htk
          rw [← hw6]
          have HTK := Lib.hid htk
          have H7 := Lib.hid (And.intro hx6 (And.intro d2 (And.intro d3 (And.intro d4 (And.intro d5 d6)))))
          clear hw6 hu6 hx6 hm6 ho6 d1 d2 d3 d4 d5 d6 htk y1 y2 y3 yf1 yf2 yf3 q1 q2 q3
          go_wp2_with fail
          refine HTK.out.mono ?_
          rintro _ w7 ⟨a7, c7, L7, v7, rfl, hm7, -, hu7, -, hk7⟩
          have hh7 := HH.out.ticked H7.out.1 hm7 H7.out.2.1 hu7 (hk7 _ rfl) H7.out.2.2.1
          have HN := Lib.hid H7.out.2.2.2
          clear hm7 hu7 hk7 HTK H7 HH
          generalize incM P.lives M = M7 at *
          have hpl := HPlan_from hh7.hm.hm hh7.heard.good
          have hbs7 := hh7.bounds
          generalize s1 + 1 = r1 at *
          generalize s2 + 1 = r2 at *
          generalize s3 + 1 = r3 at *
          have H7 := Lib.hid hh7
          have HPL := Lib.hid hpl
          have HB7 := Lib.hid hbs7
          clear hh7 hpl hbs7
          go_wp2_with fail
          refine HPL.out.mono ?_
          rintro _ w8 ⟨pa8, la8, pc8, lc8, rfl, hf8, hb8⟩
          go_upto_region 25 with fail
          obtain ⟨pb, hpb⟩ : ∃ pb, w8.heap.size = pb := ⟨_, rfl⟩
          obtain ⟨w9, hw9⟩ : ∃ w9, w9 = w8.alloc (.cells #[.int .i64 P7.nodes, .int .i64 P7.copies, .slice pa8 P7.parts.length pc8, .slice la8 P7.lives.length lc8] 52) := ⟨_, rfl⟩
          have hh9 : Hs wA w9 b mb sb (3 + 5 * i + 3) (i + 1) hb q L7 t7 v7 P7 M7 r1 r2 r3 := by rw [hw9]; exact (H7.out.below hb8).below (below_alloc _ _)
          have hx9 : w9.heap[pb]? = some (.cells #[.int .i64 P7.nodes, .int .i64 P7.copies, .slice pa8 P7.parts.length pc8, .slice la8 P7.lives.length lc8] 52 (0, 0)) := by rw [hw9, ← hpb]; exact heap_alloc_new _ _
          have hrd9 : PlanRd w9 (planV P7 pa8 pc8 la8 lc8) P7 := by rw [hw9]; exact hf8.rd.below (below_alloc _ _)
          have hkp9 : PlanOff w9 (fun i => HmF hb b mb q L7 i ∨ (i = sb ∨ i = pb)) v7 P7 := by
            have h1 : PlanOff w8 (fun i => HmF hb b mb q L7 i ∨ (i = sb ∨ i = pb)) v7 P7 := (H7.out.off.below hb8).grow (fun i hi => hi.elim (fun h => .inl (.inl h)) (fun h => h.elim (fun h => .inl (.inr h)) (fun h => .inr (by rw [h, hpb]; exact Nat.le_refl _))))
            rw [hw9]; exact h1.below (below_alloc _ _)
          have hpA : wA.heap.size ≤ pb := by have := H7.out.hm.base.size; have := hb8.size; omega
          rw [← hw9, hpb]
          have HKP := Lib.hid (And.intro hkp9 hpA)
          have H9 := Lib.hid (And.intro hh9 (And.intro hx9 hrd9))
          have hP9 : ∀ (k : Nat) (x : k < P7.parts.length), ∃ b off ca cc, pa8 = some ⟨b, off, none⟩ ∧ b < w9.heap.size ∧ w9.cell? ⟨b, off + k * 3, none⟩ = some (.int .i64 P7.parts[k].epoch) ∧ w9.cell? ⟨b, off + k * 3 + 1, none⟩ = some (.slice ca P7.parts[k].chain.length cc) ∧ w9.cell? ⟨b, off + k * 3 + 2, none⟩ = some (.int .i64 P7.parts[k].learner) ∧ IntsRd w9 (.slice ca P7.parts[k].chain.length cc) P7.parts[k].chain := by
            obtain ⟨pv, lv, e, hp, -⟩ := hrd9
            simp only [Value.agg.injEq, Array.mk.injEq, List.cons.injEq, and_true, true_and] at e
            obtain ⟨rfl, rfl⟩ := e
            obtain ⟨pa', pc', e, -, -, hP⟩ := hp.cells
            simp only [Value.slice.injEq, true_and] at e
            obtain ⟨rfl, rfl⟩ := e
            exact hP
          have H9P := Lib.hid hP9
          have two9 : P7.parts.length = 2 := H7.out.heard.two
          have T9 := Lib.hid two9
          clear hw9 hpb hh9 hx9 hrd9 hP9 hf8 hb8 two9 hkp9 hpA
          go_wp2
          go_loopg [15] 2 (fun gk v15 wt => ∃ (k : Nat), k ≤ 2 ∧ gk = 2 - k ∧ v15 = .int .i64 k ∧ Below w9.heap.size w9 wt)
          case atStart => exact ⟨0, by omega, rfl, rfl, Below.refl _ _⟩
          case round =>
            obtain ⟨k, hk, rfl, rfl, hbk⟩ := hrel
            have x2 : wr.cell? ⟨pb, 2, none⟩ = some (.slice pa8 P7.parts.length pc8) := cells_of ((hbk.block _ (Array.getElem?_eq_some_iff.1 H9.out.2.1).1).trans H9.out.2.1) 2 _ rfl
            rw [T9.out] at x2
            by_cases hk2 : k < 2
            · have k1 : (k : Int) < 2 := by omega
              have k0 : (0 : Int) ≤ (k : Int) := by omega
              have HBK := Lib.hid hbk
              generalize wr = wk at *
              clear hbk
              go_wp2
              go_loopg [16] 3 (fun gk v16 wt => ∃ (m : Nat), m ≤ 3 ∧ gk = 3 - m ∧ v16 = .int .i64 ((m : Int) + 1) ∧ Below w9.heap.size w9 wt)
              case atStart => exact ⟨0, by omega, rfl, rfl, HBK.out⟩
              case round =>
                obtain ⟨m, hm, rfl, rfl, hbm⟩ := hrel
                by_cases hm3 : m < 3
                · have m1 : (m : Int) + 1 ≤ 3 := by omega
                  have HBM := Lib.hid hbm
                  generalize wr = wm at *
                  clear hbm x2
                  have hkt : k < P7.parts.length := by rw [T9.out]; exact hk2
                  obtain ⟨cb9, co9, ca9, cc9, rfl, -, -, e1, e2, e3⟩ := H9P.out k hkt
                  obtain ⟨y, hy⟩ : ∃ y, P7.parts[k] = y := ⟨_, rfl⟩
                  rw [hy] at e1 e2 e3
                  have hyn : y ∈ P7.parts := by rw [← hy]; exact List.getElem_mem hkt
                  have HY := Lib.hid (And.intro hyn (And.intro e1 (And.intro e2 e3)))
                  clear hy hyn e1 e2 e3
                  go_wp2
                  go_loopg [17, 18] y.chain.length (fun gk v17 v18 wt => ∃ (j : Nat), j ≤ y.chain.length ∧ gk = y.chain.length - j ∧ v17 = .bool ((y.chain.take j).contains ((m : Int) + 1)) ∧ v18 = .int .i64 j ∧ Below w9.heap.size w9 wt)
                  case atStart => exact ⟨0, Nat.zero_le _, rfl, rfl, rfl, HBM.out⟩
                  case round =>
                    obtain ⟨j, hj, rfl, rfl, rfl, hbj⟩ := hrel
                    obtain ⟨hym, e1, e2, hcr⟩ := HY.out
                    have e1 := below_some hbj e1 (World.block_lt_of_cell? w9 _ e1)
                    have e2 := below_some hbj e2 (World.block_lt_of_cell? w9 _ e2)
                    have hcr := hcr.below hbj
                    have x2 : wr.cell? ⟨pb, 2, none⟩ = some (.slice (some ⟨cb9, co9, none⟩) P7.parts.length pc8) := cells_of ((hbj.block _ (Array.getElem?_eq_some_iff.1 H9.out.2.1).1).trans H9.out.2.1) 2 _ rfl
                    rw [T9.out] at x2
                    have HBJ := Lib.hid hbj
                    have hcl : (y.chain.length : Int) ≤ 9223372036854775807 := by
                      obtain ⟨_, _, _, -, hm', -⟩ := hcr.cells
                      unfold maxLen at hm'; omega
                    by_cases hjl : j < y.chain.length
                    · obtain ⟨wb, woff, wcap, e4, -, -, -, hcc⟩ := Rd.at hcr (by omega)
                      obtain ⟨rfl, rfl⟩ : ca9 = some ⟨wb, woff, none⟩ ∧ cc9 = wcap := by simpa using e4
                      have y0 : wr.cell? ⟨wb, woff + j, none⟩ = some (.int .i64 y.chain[j]) := hcc j _ (intCells_get y.chain j hjl)
                      have z1 : (j : Int) < (y.chain.length : Int) := by omega
                      have z2 : (0 : Int) ≤ (j : Int) := by omega
                      have hnx : (y.chain.take (j + 1)).contains ((m : Int) + 1) = ((y.chain.take j).contains ((m : Int) + 1) || (y.chain[j] == (m : Int) + 1)) := contains_take hjl _
                      obtain ⟨bi, hbi⟩ : ∃ bi, (y.chain.take j).contains ((m : Int) + 1) = bi := ⟨_, rfl⟩
                      rw [hbi] at hnx ⊢
                      obtain ⟨bq, hbq⟩ : ∃ bq, (y.chain[j] == (m : Int) + 1) = bq := ⟨_, rfl⟩
                      rw [hbq] at hnx
                      have HNX := Lib.hid hnx
                      have HJ2 := Lib.hid (And.intro hbj hbi)
                      clear hnx hbi hcc e4 hcr hym hbj
                      cases bi
                      · go_wp2
                        go_roundg (y.chain.length - (j + 1))
                        case measure => omega
                        case rel => exact ⟨j + 1, by omega, rfl, by rw [HNX.out]; first | rfl | simp [hbq], by go_num, HJ2.out.1⟩
                      · go_wp2
                        go_roundg (y.chain.length - (j + 1))
                        case measure => omega
                        case rel => exact ⟨j + 1, by omega, rfl, by rw [HNX.out]; rfl, by go_num, HJ2.out.1⟩
                    · have z1 : ¬ (j : Int) < (y.chain.length : Int) := by omega
                      rw [List.take_of_length_le (by omega)]
                      have hrm : ∃ rm : Int, (∀ W : World, W.heap[sb]? = some (.cells (sinceA r1 r2 r3) 48 (0, 0)) → W.cell? ⟨sb, m + 1, none⟩ = some (.int .i64 rm)) ∧ (4 < rm → NotIn ((m : Int) + 1) y) := by
                        rcases (show m = 0 ∨ m = 1 ∨ m = 2 by omega) with rfl | rfl | rfl
                        · exact ⟨r1, fun W h => cells_of h 1 _ rfl, fun h => HN.out.1 h y hym⟩
                        · exact ⟨r2, fun W h => cells_of h 2 _ rfl, fun h => HN.out.2.1 h y hym⟩
                        · exact ⟨r3, fun W h => cells_of h 3 _ rfl, fun h => HN.out.2.2 h y hym⟩
                      obtain ⟨rm, hrc, hrn⟩ := hrm
                      have y0 : wr.cell? ⟨sb, m + 1, none⟩ = some (.int .i64 rm) := hrc wr ((hbj.block _ (Array.getElem?_eq_some_iff.1 H9.out.1.arr).1).trans H9.out.1.arr)
                      have z3 : (m : Int) + 1 < 4 := by omega
                      have z4 : (0 : Int) ≤ (m : Int) + 1 := by omega
                      obtain ⟨bi, hbi⟩ : ∃ bi, y.chain.contains ((m : Int) + 1) = bi := ⟨_, rfl⟩
                      rw [hbi]
                      by_cases h4 : 4 < rm
                      · have hn4 := hrn h4
                        have l0 : (y.learner == (m : Int) + 1) = false := by simpa using hn4.2
                        have l1 : bi = true → ¬ (1 : Int) < (y.chain.length : Int) := fun hb h => by
                          rw [hb] at hbi
                          exact hn4.1 ⟨by simpa using hbi, by omega⟩
                        clear hrc hrn hn4 hbi hcr hym hbj
                        cases bi
                        · clear l1
                          go_wp2
                          go_roundg (3 - (m + 1))
                          case measure => omega
                          case rel => exact ⟨m + 1, by omega, rfl, by go_num, HBJ.out⟩
                        · have l1 := l1 rfl
                          go_wp2
                          go_roundg (3 - (m + 1))
                          case measure => omega
                          case rel => exact ⟨m + 1, by omega, rfl, by go_num, HBJ.out⟩
                      · clear hrc hrn hbi hcr hym hbj
                        go_wp2
                        go_roundg (3 - (m + 1))
                        case measure => omega
                        case rel => exact ⟨m + 1, by omega, rfl, by go_num, HBJ.out⟩
                · have m1 : ¬ (m : Int) + 1 ≤ 3 := by omega
                  have HBM := Lib.hid hbm
                  clear hbm
                  go_wp2
                  go_roundg (2 - (k + 1))
                  case measure => omega
                  case rel => exact ⟨k + 1, by omega, rfl, by go_num, HBM.out⟩
            · have k1 : ¬ (k : Int) < 2 := by omega
              have hhk := H9.out.1.below hbk
              have HHK := Lib.hid hhk
              have HBK := Lib.hid hbk
              obtain ⟨wb, woff, wcap, e4, -, -, -, hcc⟩ := Rd.at (HWA.out.2.2.below hhk.hm.base) (by omega)
              obtain ⟨rfl, rfl⟩ : pa = some ⟨wb, woff, none⟩ ∧ pc = wcap := by simpa using e4
              have y0 : wr.cell? ⟨wb, woff + i, none⟩ = some (.int .i64 bs[i]) := hcc i _ (intCells_get bs i hil)
              generalize wr = wk at *
              obtain ⟨ar, har, harl⟩ := u64_mod bs[i] 3 (by omega)
              have hw64 : wrap64 (ar : Int) = ar := IntWalk.wrap64_in _ (by omega)
              have hw1 : wrap64 (1 + (ar : Int)) = 1 + (ar : Int) := IntWalk.wrap64_in _ (by omega)
              clear hbk hhk hcc e4
              go_upto_region 39 with fail
              go_cut [160] from 155 to 160 (fun v160 wc => wc = wk ∧ ∃ bq : Bool, v160 = .bool bq)
              case first =>
                go_wp2_with fail
                go_meet
                exact ⟨rfl, _, rfl⟩
              obtain ⟨hwc, bq, rfl⟩ := hcut
              subst hwc
              cases bq
              case true =>
                go_wp2
                go_roundg (bs.length - (i + 1))
                case measure => omega
                case rel => exact ⟨i + 1, L7, t7, v7, P7, M7, r1, r2, r3, by omega, by omega, rfl, by go_num, HHK.out.mono (by omega)⟩
              case false =>
                have hkp := HKP.out.1.below HBK.out
                have hpbx := (HBK.out.block _ (Array.getElem?_eq_some_iff.1 H9.out.2.1).1).trans H9.out.2.1
                have hpl := HPlan_from HHK.out.hm.hm HHK.out.heard.good
                have HPL2 := Lib.hid hpl
                have HKX := Lib.hid (And.intro hkp hpbx)
                clear hpl hkp hpbx x2 y0
                go_wp2_with fail
                refine HPL2.out.mono ?_
                rintro _ w10 ⟨pa10, la10, pc10, lc10, rfl, hf10, hb10⟩
                go_upto_region 41 with fail
                obtain ⟨ub, hub⟩ : ∃ ub, w10.heap.size = ub := ⟨_, rfl⟩
                obtain ⟨w11, hw11⟩ : ∃ w11, w11 = w10.alloc (.cells #[.int .i64 P7.nodes, .int .i64 P7.copies, .slice pa10 P7.parts.length pc10, .slice la10 P7.lives.length lc10] 52) := ⟨_, rfl⟩
                have hsz11 : w11.heap.size = ub + 1 := by rw [hw11, World.size_alloc, hub]
                have hst := hs_step HHK.out HKX.out.1 HKX.out.2 HS5.out.2 HKP.out.2 hf10 hb10
                rw [← hw11, hub] at hst
                rw [← hw11, hub]
                obtain ⟨nd, hnd⟩ : ∃ nd : Int, nd = 1 + (ar : Int) := ⟨_, rfl⟩
                have hndc : nd = 1 ∨ nd = 2 ∨ nd = 3 := by omega
                have hbt := hs_hear HWA.out.2.1 hst hsz11 (by omega) hndc
                rw [← hnd]
                have HBT := Lib.hid (And.intro hbt hndc)
                clear hw11 hub hsz11 hst hbt hndc hnd hf10 hb10 HPL2 HKX har harl hw64 hw1
                go_wp2_with fail
                refine HBT.out.1.mono ?_
                rintro _ w12 ⟨a12, c12, n12, m12, L12, t12, v12, P12, E12, rfl, hn12, hm12, hcc⟩
                obtain ⟨xa, xla, xpc, xlc, -, -, -, y2, -, -⟩ := hcc.was.cells
                rw [hcc.two] at y2
                have g2 : ¬ (m12 : Int) < 2 := by omega
                have HCC := Lib.hid hcc
                have HNM := Lib.hid (And.intro hn12 hm12)
                clear hcc hn12 hm12
                go_upto_region 44 with fail
                go_cut [] from 180 to 181 (fun wc => wc = w12.setCell ⟨sb, nd.toNat, none⟩ (.int .i64 0))
                case first =>
                  have c1 := cells_of HCC.out.arr 1 _ rfl
                  have c2 := cells_of HCC.out.arr 2 _ rfl
                  have c3 := cells_of HCC.out.arr 3 _ rfl
                  have f1 : ∀ i, w12.frozen? ⟨sb, i, none⟩ = false := fun _ => frozen_of HCC.out.arr
                  have f11 := f1 1
                  have f12 := f1 2
                  have f13 := f1 3
                  clear f1
                  rcases HBT.out.2 with rfl | rfl | rfl
                  all_goals
                    go_wp2_with fail
                    go_meet
                    rfl
                subst hcut
                have hc13 := HCC.out.since HBT.out.2
                obtain ⟨w13, hw13⟩ : ∃ w13, w13 = w12.setCell ⟨sb, nd.toNat, none⟩ (.int .i64 0) := ⟨_, rfl⟩
                rw [← hw13] at hc13 ⊢
                have hpl3 := HPlan_from hc13.hm.hm hc13.heard.good
                have HPL3 := Lib.hid hpl3
                have HC13 := Lib.hid hc13
                clear hw13 hc13 hpl3 HCC y2
                go_wp2_with fail
                refine HPL3.out.mono ?_
                rintro _ w14 ⟨pa14, la14, pc14, lc14, rfl, hf14, hb14⟩
                obtain ⟨q0, q1, q2, q3, hqx⟩ := HC13.out.pbx
                have hqx := (hb14.block _ (Array.getElem?_eq_some_iff.1 hqx).1).trans hqx
                have c0 := cells_of hqx 0 _ rfl
                have c1 := cells_of hqx 1 _ rfl
                have c2 := cells_of hqx 2 _ rfl
                have c3 := cells_of hqx 3 _ rfl
                have f0 : w14.frozen? ⟨pb, 0, none⟩ = false := frozen_of hqx
                have f1 : w14.frozen? ⟨pb, 1, none⟩ = false := frozen_of hqx
                have f2 : w14.frozen? ⟨pb, 2, none⟩ = false := frozen_of hqx
                have f3 : w14.frozen? ⟨pb, 3, none⟩ = false := frozen_of hqx
                have hd15 := HC13.out.planned hf14 hb14
                have HD := Lib.hid hd15
                clear hqx hf14 hb14 hd15 HPL3
                go_upto_region 46 with fail
                obtain ⟨w15, hw15⟩ : ∃ w15, w15 = (((w14.setCell ⟨pb, 0, none⟩ (.int .i64 P12.nodes)).setCell ⟨pb, 1, none⟩ (.int .i64 P12.copies)).setCell ⟨pb, 2, none⟩ (.slice pa14 P12.parts.length pc14)).setCell ⟨pb, 3, none⟩ (.slice la14 P12.lives.length lc14) := ⟨_, rfl⟩
                have hd15 := HD.out
                rw [← hw15] at hd15 ⊢
                obtain ⟨p1, o1, pc1, p2, o2, pc2, m1, mo, lv, rfl, hml, hwc, hre⟩ := hd15.reads HNM.out.1 HNM.out.2
                have HD15 := Lib.hid hd15
                have HRE := Lib.hid (And.intro hml (And.intro hwc hre))
                clear hw15 hd15 HD hml hwc hre c0 c1 c2 c3 f0 f1 f2 f3 HC13 g2
                go_wp2
                go_loopg [23] 2 (fun gk v23 wt => ∃ (k : Nat), k ≤ 2 ∧ gk = 2 - k ∧ v23 = .int .i64 k ∧ Below w15.heap.size w15 wt)
                case atStart => exact ⟨0, by omega, rfl, rfl, Below.refl _ _⟩
                case round =>
                  obtain ⟨k, hk, rfl, rfl, hbk⟩ := hrel
                  have hre0 := HRE.out.2.2 0 (by omega)
                  obtain ⟨_, _, _, _, _, _, hr0⟩ := hre0
                  obtain ⟨-, -, z2, -⟩ := hr0 wr hbk
                  have HBK2 := Lib.hid hbk
                  clear hr0 hbk
                  by_cases hk2 : k < 2
                  · have k1 : (k : Int) < 2 := by omega
                    go_upto_region 49 with fail
                    obtain ⟨cl, cc1, cc2, ca1, ca2, ep, hfa⟩ := HRE.out.2.2 k hk2
                    refine hs_r49 ?_ (fun W hb => (HRE.out.2.1 W (HBK2.out.trans (hb.mono HBK2.out.size))).mono (fun e w' h => ⟨h.1, hb.trans (h.2.mono hb.size)⟩)) (fun W hb => hfa W (HBK2.out.trans (hb.mono HBK2.out.size))) hk2 HNM.out.2 HRE.out.1 (fun a' w' h => ?_)
                    · kernel_rfl
                    iterate 42 (obtain ⟨_, h⟩ := h)
                    obtain ⟨hb9, rfl⟩ := h
                    have HB9 := Lib.hid hb9
                    clear hb9 hfa z2
                    go_wp2
                    go_roundg (2 - (k + 1))
                    case measure => omega
                    case rel => exact ⟨k + 1, by omega, rfl, by go_num, HBK2.out.trans (HB9.out.mono HBK2.out.size)⟩
                  · have k1 : ¬ (k : Int) < 2 := by omega
                    go_wp2
                    go_roundg (bs.length - (i + 1))
                    case measure => omega
                    case rel => exact ⟨i + 1, L12, t12, v12, P12, missP M7 nd 0, _, _, _, by omega, by omega, rfl, by go_num, (HD15.out.hs.below HBK2.out).mono (by omega)⟩
        · have hbf := HWA.out.1.trans (hh.hm.base.mono HWA.out.1.size)
          have HBF := Lib.hid hbf
          have hfd := fld_Parts
          clear hh hbf
          by_cases hil : i < bs.length
          · have j1 : (i : Int) < (bs.length : Int) := by omega
            have j3 : ¬ (i : Int) < 60 := by omega
            clear hin
            go_wp2_with (first
              | (go_at_call 16; refine (HHear_nil _).mono ?_; rintro _ w20 ⟨rfl, hb20⟩)
              | (go_at_call 17; refine (HTick_nil _).mono ?_; rintro _ w21 ⟨rfl, rfl⟩)
              | (go_at_call 20; refine (HDo_nil _).mono ?_; rintro _ w22 ⟨rfl, hb22⟩)
              | (go_at_call 18; refine (HPlan_nil _).mono ?_; rintro _ w23 ⟨rfl, hb23⟩))
            go_ret
            exact ⟨rfl, HBF.out.trans (((below_trans hb20 hb22).trans (hb23.mono (Nat.le_trans hb20.size hb22.size))).mono HBF.out.size)⟩
          · have j1 : ¬ (i : Int) < (bs.length : Int) := by omega
            clear hin
            go_wp2_with (first
              | (go_at_call 16; refine (HHear_nil _).mono ?_; rintro _ w20 ⟨rfl, hb20⟩)
              | (go_at_call 17; refine (HTick_nil _).mono ?_; rintro _ w21 ⟨rfl, rfl⟩)
              | (go_at_call 20; refine (HDo_nil _).mono ?_; rintro _ w22 ⟨rfl, hb22⟩)
              | (go_at_call 18; refine (HPlan_nil _).mono ?_; rintro _ w23 ⟨rfl, hb23⟩))
            go_ret
            exact ⟨rfl, HBF.out.trans (((below_trans hb20 hb22).trans (hb23.mono (Nat.le_trans hb20.size hb22.size))).mono HBF.out.size)⟩
end Go.Proofs.YtcpaaleogmiamaaGreatDoor
