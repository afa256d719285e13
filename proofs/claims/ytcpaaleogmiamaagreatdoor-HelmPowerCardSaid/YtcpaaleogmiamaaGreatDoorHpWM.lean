/- The walk of HelmPower. -/
import Derived.Test.YtcpaaleogmiamaaGreatDoorMq47
namespace Go.Proofs.YtcpaaleogmiamaaGreatDoor
open Go.RowKit

structure Pw (wA w : World) (b mb nb : Nat) (P0 : Pl) (k : Nat) (hb q : Nat) (L : TpL) (t : Tp) (v : Value) (P : Pl) (es : List Event) : Prop where
  hm : HmW wA w hb b mb q L t v P [] t.life false
  off : PlanOff w (fun j => HmF hb b mb q L j ∨ j = nb) v P
  now : NowAt w (fun j => HmF hb b mb q L j ∨ j = nb) nb P
  disk : Disk t es
  fold : foldE P0 es = some P
  few : es.length ≤ 2 * k

/-- A tape that is armed. -/
theorem HmW.armed {w0 w w' : World} {hb b mb q : Nat} {L : TpL} {t : Tp} {v : Value} {p : Pl} {M : List (Int × Int)} {life : Int} {dead : Bool} (h : HmW w0 w hb b mb q L t v p M life dead) {n : Nat} (ht : TpAt w' b mb L { t with armed := n }) (hu : Upd (fun k => k = b) w w') : HmW w0 w' hb b mb q L { t with armed := n } v p M life dead :=
  h.step ht (hu.or (fun _k e => .inl e)) (fun _ hk => .inl hk)
theorem Disk.armed {t : Tp} {es : List Event} (h : Disk t es) (n : Nat) : Disk { t with armed := n } es := ⟨h.down, h.room, h.files⟩

theorem Calm.unarmed {P0 p : Pl} {t : Tp} {n : Nat} (h : Calm P0 t p n) {m : Nat} : Calm P0 { ({ t with armed := m } : Tp) with armed := 0 } p n := by
  obtain ⟨es, h1, h2, h3⟩ := h.disk
  exact ⟨⟨es, ⟨h1.down, h1.room, h1.files⟩, h2, h3⟩, rfl⟩
/-- An act that is none. -/
abbrev act0 : Array Value := #[.int .i64 0, .int .i64 0, .int .i64 0, .int .i64 0, .int .i64 0, .int .i64 0, .int .i64 0, .int .i64 0, .int .i64 0, .int .i64 0, .slice none 0 0, .int .i64 0, .slice none 0 0, .int .i64 0, .int .i64 0, .int .i64 0, .int .i64 0, .int .i64 0, .slice none 0 0, .slice none 0 0, .int .i64 0, .int .i64 0, .int .i64 0, .int .i64 0, .int .i64 0, .int .i64 0, .int .i64 0, .int .i64 0, .string ⟨#[]⟩, .string ⟨#[]⟩, .slice none 0 0, .int .i64 0, .int .i64 0, .int .i64 0, .int .i64 0, .int .i64 0, .int .i64 0, .slice none 0 0, .slice none 0 0, .int .i64 0, .int .i64 0, .int .i64 0, .int .i64 0, .int .i64 0, .slice none 0 0, .string ⟨#[]⟩]
theorem und_Act13 : ∃ d, Tryz.prog.underlying 66 = some d ∧ d.isRow = true := ⟨_, Tryz.underlying66, rfl⟩
theorem size_Act13 : (Tryz.prog.info? 66).map (·.size) = some 46 := by kernel_rfl

set_option maxRecDepth 100000 in
set_option maxHeartbeats 16000000 in
theorem HPower_any {w : World} {av pv : Value} {A : List HAct} {pw : List Int} (hE : Env w) (hA : ActsRd w av A) (hp : IntsRd w pv pw) (s0 s1 s2 : Int) :
    Calls Tryz.prog 4 #[.agg #[.int .i64 s0, .int .i64 s1, .int .i64 s2], av, pv] w fun e w' => e = .returned (.bool true) ∧ Below w.heap.size w w' := by
  obtain ⟨aa, ac, rfl, hml⟩ := hA.shape
  obtain ⟨pa, pc, rfl, -, hpm, -⟩ := hp.cells
  have A0 : (A.length : Int) ≤ 9223372036854775807 := by unfold maxLen at hml; omega
  have PL : (pw.length : Int) ≤ 9223372036854775807 := by unfold maxLen at hpm; omega
  have HA := Lib.hid (And.intro hA hp)
  have HE := Lib.hid hE
  clear hA hp hE hml hpm
  go_enter Tryz.func4, Tryz.ntmps4
  go_upto_region 1 with fail
  obtain ⟨w1, hw1⟩ : ∃ w1, w1 = w.alloc (.cells #[.int .i64 s0, .int .i64 s1, .int .i64 s2] 60) := ⟨_, rfl⟩
  have hb1 : Below w.heap.size w w1 := by rw [hw1]; exact below_alloc _ _
  have hx1 : w1.heap[w.heap.size]? = some (.cells #[.int .i64 s0, .int .i64 s1, .int .i64 s2] 60 (0, 0)) := by rw [hw1]; exact heap_alloc_new _ _
  rw [← hw1]
  have hsz : ∀ W, Below w1.heap.size w1 W → W.cell? ⟨w.heap.size, 0, none⟩ = some (.int .i64 s0) ∧ W.cell? ⟨w.heap.size, 1, none⟩ = some (.int .i64 s1) ∧ W.cell? ⟨w.heap.size, 2, none⟩ = some (.int .i64 s2) := by
    intro W hb
    have hx := (hb.block _ (Array.getElem?_eq_some_iff.1 hx1).1).trans hx1
    exact ⟨cells_of hx 0 _ rfl, cells_of hx 1 _ rfl, cells_of hx 2 _ rfl⟩
  have HSZ := Lib.hid (And.intro hsz hb1)
  clear hw1 hx1 hsz hb1
  go_wp2_with fail
  refine (L13awake_any (HE.out.below HSZ.out.2)).mono ?_
  rintro _ w2 ⟨rfl, hb2⟩
  have hgr := L13great_any ((HA.out.1.below HSZ.out.2).below hb2)
  have HGR := Lib.hid hgr
  have HB2 := Lib.hid hb2
  clear hgr hb2
  go_wp2_with fail
  refine HGR.out.mono ?_
  rintro _ w3 ⟨⟨g, rfl⟩, rfl⟩
  clear HGR
  cases g with
  | true =>
    have HF := Lib.hid (below_trans HSZ.out.2 HB2.out)
    go_wp2
    go_ret
    exact ⟨rfl, HF.out⟩
  | false =>
    obtain ⟨x0, x1, x2⟩ := HSZ.out.1 _ HB2.out
    go_wp2_with fail
    refine (L13conf_any s0 s1 s2 _).mono ?_
    rintro _ w4 ⟨n, p, c, rfl, hok, hb4⟩
    clear x0 x1 x2
    go_upto_region 6 with fail
    obtain ⟨wA, hwA⟩ : ∃ wA, wA = w4.alloc (.cells #[.int .i64 (n : Int), .int .i64 0, .int .i64 (p : Int), .int .i64 (c : Int), .int .i64 0, .int .i64 0, .int .i64 0, .int .i64 0] 25) := ⟨_, rfl⟩
    obtain ⟨cb, hcb⟩ : ∃ cb, w4.heap.size = cb := ⟨_, rfl⟩
    have hbA : Below w.heap.size w wA := by rw [hwA]; exact (HSZ.out.2.trans ((HB2.out.trans (hb4.mono HB2.out.size)).mono HSZ.out.2.size)).trans ((below_alloc w4 _).mono (Nat.le_trans HSZ.out.2.size (Nat.le_trans HB2.out.size hb4.size)))
    have hxA : wA.heap[cb]? = some (.cells #[.int .i64 (n : Int), .int .i64 0, .int .i64 (p : Int), .int .i64 (c : Int), .int .i64 0, .int .i64 0, .int .i64 0, .int .i64 0] 25 (0, 0)) := by rw [hwA, ← hcb]; exact heap_alloc_new _ _
    have hcf : ∀ W, Below wA.heap.size wA W → W.cell? ⟨cb, 0, none⟩ = some (.int .i64 (n : Int)) ∧ W.cell? ⟨cb, 1, none⟩ = some (.int .i64 0) ∧ W.cell? ⟨cb, 2, none⟩ = some (.int .i64 (p : Int)) ∧ W.cell? ⟨cb, 3, none⟩ = some (.int .i64 (c : Int)) ∧
        W.cell? ⟨cb, 4, none⟩ = some (.int .i64 0) ∧ W.cell? ⟨cb, 5, none⟩ = some (.int .i64 0) ∧ W.cell? ⟨cb, 6, none⟩ = some (.int .i64 0) ∧ W.cell? ⟨cb, 7, none⟩ = some (.int .i64 0) := by
      intro W hb
      have hx := (hb.block _ (Array.getElem?_eq_some_iff.1 hxA).1).trans hxA
      exact ⟨cells_of hx 0 _ rfl, cells_of hx 1 _ rfl, cells_of hx 2 _ rfl, cells_of hx 3 _ rfl, cells_of hx 4 _ rfl, cells_of hx 5 _ rfl, cells_of hx 6 _ rfl, cells_of hx 7 _ rfl⟩
    have hEA := HE.out.below hbA
    have hAA := HA.out.1.below hbA
    have hPA := HA.out.2.below hbA
    rw [← hwA, hcb]
    have HCF := Lib.hid hcf
    have HWA := Lib.hid (And.intro hbA (And.intro hEA (And.intro hAA hPA)))
    have HOK := Lib.hid hok
    clear hwA hbA hxA hcf hEA hAA hPA hok hb4 HA HE HSZ HB2 hcb
    obtain ⟨P0, hP0⟩ : ∃ P0, newP n p c = P0 := ⟨_, rfl⟩
    have HP0 := Lib.hid hP0
    go_wp2_with fail
    refine (TNew_from 1048576 _).mono ?_
    rintro _ w5 ⟨b, mb, rfl, ht1, hab, hb1⟩
    obtain ⟨f0, f1, f2, f3, f4, f5, f6, f7⟩ := HCF.out _ hb1
    have hc0 := calm_new (room := 1048576) (by omega) P0
    have hop := pwOpen HWA.out.2.1 hb1 hab ht1 rfl HOK.out (openR_new 1048576 _)
    rw [hP0] at hop
    generalize newT 1048576 = t0 at *
    have HOP := Lib.hid hop
    have HC0 := Lib.hid hc0
    have HAB := Lib.hid hab
    clear hop hc0 ht1 hab hb1 hP0
    go_wp2_with fail
    refine HOP.out.mono ?_
    rintro _ w6 ⟨L0, hb0, q0, v0, rfl, hm6, -, -, -, -, -⟩
    have HM6 := Lib.hid hm6
    clear hm6 f0 f1 f2 f3 f4 f5 f6 f7 HOP
    obtain ⟨bl, hbl⟩ : ∃ bl, decide (0 < pw.length) = bl := ⟨_, rfl⟩
    have hbl2 : bl = true ↔ 0 < pw.length := by rw [← hbl]; simp
    have HBL := Lib.hid hbl2
    clear hbl2
    go_upto_if 37 with fail
    go_cut [] from 38 to 45 (fun wc => ∃ t1, HmW wA wc hb0 b mb q0 L0 t1 v0 P0 [] t1.life false ∧ Calm P0 { t1 with armed := 0 } P0 0)
    case first =>
      cases bl with
      | true =>
        have hl : 0 < pw.length := HBL.out.1 rfl
        obtain ⟨wb, woff, wcap, e2, -, -, -, hcc⟩ := Rd.at (HWA.out.2.2.2.below HM6.out.base) hl
        obtain ⟨rfl, -⟩ : pa = some ⟨wb, woff, none⟩ ∧ pc = wcap := by simpa using e2
        have y0 : w6.cell? ⟨wb, woff, none⟩ = some (.int .i64 pw[0]) := by have := hcc 0 _ (intCells_get pw 0 hl); simpa using this
        obtain ⟨ar, har, harl⟩ := u64_mod pw[0] 40 (by omega)
        have hI : I64 (ar : Int) := ⟨by omega, by omega⟩
        have hw64 : wrap64 (ar : Int) = ar := IntWalk.wrap64_in _ (by omega)
        have hta := TArm_any HM6.out.hm.tape hI
        have l1 : (0 : Int) < (pw.length : Int) := by omega
        have HTA := Lib.hid hta
        clear hcc e2 hI hta
        go_wp2_with fail
        refine HTA.out.mono ?_
        rintro _ w7 ⟨rfl, ht7, hu7⟩
        have H7 := Lib.hid (HM6.out.armed ht7 hu7)
        clear ht7 hu7
        go_wp2_with fail
        go_meet
        exact ⟨_, H7.out, HC0.out.unarmed⟩
      | false =>
        have l1 : ¬ (0 : Int) < (pw.length : Int) := by intro h; have := HBL.out.2 (by omega); cases this
        go_wp2_with fail
        go_meet
        exact ⟨t0, HM6.out, HC0.out.unarmed⟩
    obtain ⟨t1, hm7, hc7⟩ := hcut
    have hg0 : goodP P0 = true := by rw [← HP0.out]; exact newP_good HOK.out
    have hpl := HPlan_from hm7.hm hg0
    have HPL := Lib.hid hpl
    have H7 := Lib.hid (And.intro hm7 (And.intro hc7 hg0))
    clear hpl hm7 hc7 hg0
    go_wp2_with fail
    refine HPL.out.mono ?_
    rintro _ w8 ⟨pa8, la8, pc8, lc8, rfl, hf8, hb8⟩
    go_upto_region 14 with fail
    obtain ⟨nb, hnb⟩ : ∃ nb, w8.heap.size = nb := ⟨_, rfl⟩
    obtain ⟨w9, hw9⟩ : ∃ w9, w9 = w8.alloc (.cells #[.int .i64 P0.nodes, .int .i64 P0.copies, .slice pa8 P0.parts.length pc8, .slice la8 P0.lives.length lc8] 52) := ⟨_, rfl⟩
    have hm9 : HmW wA w9 hb0 b mb q0 L0 t1 v0 P0 [] t1.life false := by rw [hw9]; exact (H7.out.1.below hb8).below (below_alloc _ _)
    have hpw : Pw wA w9 b mb nb P0 0 hb0 q0 L0 t1 v0 P0 [] := by
      refine ⟨hm9, ?_, ?_, ?_, rfl, Nat.zero_le _⟩
      · have h1 := (H7.out.1.below hb8).hm.plan
        have h2 : PlanOff w8 (fun j => HmF hb0 b mb q0 L0 j ∨ j = nb) v0 P0 := h1.grow (fun k hk => hk.imp id (fun e => by omega))
        rw [hw9]; exact h2.below (below_alloc _ _)
      · refine ⟨pa8, la8, pc8, lc8, by rw [hw9, ← hnb]; exact heap_alloc_new _ _, ?_⟩
        have h2 : PlanOff w8 (fun j => HmF hb0 b mb q0 L0 j ∨ j = nb) (planV P0 pa8 pc8 la8 lc8) P0 := (PlanOff.of_from (G := HmF hb0 b mb q0 L0) hf8 (fun j hj => H7.out.1.fLt j hj)).grow (fun k hk => hk.imp id (fun e => by omega))
        rw [hw9]; exact h2.below (below_alloc _ _)
      · obtain ⟨es, h1, h2, h3⟩ := H7.out.2.1.disk
        have : es = [] := List.length_eq_zero_iff.1 (by omega)
        subst this
        exact ⟨h1.down, h1.room, h1.files⟩
    have hnA : wA.heap.size ≤ nb := by have := H7.out.1.base.size; have := hb8.size; omega
    have HPW := Lib.hid (And.intro hpw hnA)
    rw [← hw9, hnb]
    clear hw9 hm9 hpw hnb hf8 hb8 hnA
    go_wp2
    go_loopg [9, 11, 13] A.length (fun gk v9 v11 v13 wt => ∃ (k l hb q : Nat) (L : TpL) (t : Tp) (v : Value) (P : Pl) (es : List Event), k ≤ A.length ∧ k ≤ 60 ∧ gk = A.length - k ∧ v13 = .int .i64 k ∧ v11 = .int .i64 l ∧ l ≤ k ∧ v9 = .pointer (some ⟨hb, 0, none⟩) ∧ Pw wA wt b mb nb P0 k hb q L t v P es)
    case atStart => exact ⟨0, 0, hb0, q0, L0, t1, v0, P0, [], Nat.zero_le _, by omega, rfl, rfl, rfl, Nat.le_refl _, rfl, HPW.out.1⟩
    case round =>
      obtain ⟨k, l, hb, q, L, t, v, P, es, hk, hk6, rfl, rfl, rfl, hl, rfl, hpw⟩ := hrel
      by_cases hin : k < A.length ∧ k < 60
      · obtain ⟨hkt, hk60⟩ := hin
        have j1 : (k : Int) < (A.length : Int) := by omega
        have j2 : (0 : Int) ≤ (k : Int) := by omega
        have j3 : (k : Int) < 60 := by omega
        have hbw := hpw.hm.base
        obtain ⟨ab, aoff, cs, rfl, hai, hcc⟩ := HWA.out.2.2.1.at k hkt
        obtain ⟨x, hx⟩ : ∃ x, A[k] = x := ⟨_, rfl⟩
        rw [hx] at hai
        obtain ⟨g1, g2, gs, ms, fv, k0, -, k2, k3, k4, k5, k6, -, k8⟩ := hai
        have hrg : wr.rangeAt ab (aoff + k * 46) cs := fun j u hu => below_some hbw (hcc j u hu) (World.block_lt_of_cell? wA _ (hcc j u hu))
        obtain ⟨fa, fc, rfl, -⟩ := k8.cells
        have hci : (Tryz.prog.info? 66).map (·.size) = some cs.length := by rw [g1]; exact size_Act13
        have HPW2 := Lib.hid hpw
        have HCI := Lib.hid (And.intro hci hrg)
        clear hpw hcc hx hci hrg
        have hci2 : (Tryz.prog.info? 66).map (·.size) = some cs.toArray.size := by rw [List.size_toArray, g1]; exact size_Act13
        have h1c : cs.toArray.all (·.oneCell') = true := all_oneCell_toArray g2
        have HCI2 := Lib.hid (And.intro hci2 h1c)
        clear hci2 h1c
        go_upto_region 18 with (first | (refine wpList_load_mid rfl 66 _ rfl ab (aoff + k * 46) rfl cs _ HCI.out.2 Tryz.underlying66 rfl HCI.out.1 ?_) | (refine wpList_store_mid rfl 66 _ _ rfl wr.heap.size 0 cs.toArray rfl rfl (there_of_blk (heap_alloc_new wr _) (by rw [List.size_toArray, g1]; exact Nat.le_refl _)) HCI2.out.1 HCI2.out.2 ?_))
        obtain ⟨wx, hwx⟩ : ∃ wx, wx = (wr.alloc (.cells act0 66)).setCells wr.heap.size 0 cs := ⟨_, rfl⟩
        rw [← hwx]
        obtain ⟨hxb, hxu⟩ := setCells_whole cs (heap_alloc_new wr (.cells act0 66)) (by rw [g1]; rfl)
        rw [← hwx] at hxb hxu
        have hbx : Below wr.heap.size wr wx := (below_alloc wr (.cells act0 66)).trans (hxu.toBelow (by simp) (fun b e => by omega))
        obtain ⟨xb, hxbn⟩ : ∃ xb, wr.heap.size = xb := ⟨_, rfl⟩
        have hxc : ∀ W : World, W.heap[xb]? = wx.heap[xb]? → W.cell? ⟨xb, 0, none⟩ = some (.int .i64 x.kind) ∧ W.cell? ⟨xb, 39, none⟩ = some (.int .i64 x.ev.kind) ∧ W.cell? ⟨xb, 40, none⟩ = some (.int .i64 x.ev.node) ∧ W.cell? ⟨xb, 41, none⟩ = some (.int .i64 x.ev.part) ∧ W.cell? ⟨xb, 42, none⟩ = some (.int .i64 x.ev.n) ∧ W.cell? ⟨xb, 44, none⟩ = some (.slice fa x.fates.length fc) := by
          intro W hW
          rw [← hxbn] at hW ⊢
          have h := hW.trans hxb
          exact ⟨cells_of h 0 _ (by simpa using k0), cells_of h 39 _ (by simpa using k2), cells_of h 40 _ (by simpa using k3), cells_of h 41 _ (by simpa using k4), cells_of h 42 _ (by simpa using k5), cells_of h 44 _ (by simpa using k6)⟩
        rw [hxbn] at hxb
        rw [hxbn]
        have HX := Lib.hid (And.intro hxc (And.intro hbx hxb))
        have HF8 := Lib.hid (And.intro hbw k8)
        obtain ⟨c0, c39, c40, c41, c42, c44⟩ := hxc wx rfl
        obtain ⟨pan, lan, pcn, lcn, hnrd, n0, n1, n2, n3, -⟩ := (HPW2.out.now.below hbx).cells
        have hap := fun W (hb' : Below wx.heap.size wx W) => Apply_out (hnrd.below hb') x.ev
        obtain ⟨P1, T1, c1, hq⟩ : ∃ P1 T1 c1, applyP P x.ev = (P1, T1, c1) := ⟨_, _, _, rfl⟩
        rw [hq] at hap
        have HAP := Lib.hid hap
        have HQ := Lib.hid hq
        clear hwx hxu hxc hbx hxb hap hq hnrd g1 g2 k0 k2 k3 k4 k5 k6 k8 hbw HCI HCI2
        go_wp2_with fail
        refine (HAP.out _ (Below.refl _ _)).mono ?_
        rintro _ wy ⟨pa1, la1, ta1, pc1, lc1, tc1, l1, j1', m1, nn1, kk1, rfl, hf1, -, -, hb1⟩
        obtain ⟨pa0, la0, pc0, lc0, e1, e2, e3, e4⟩ := hf1.shape
        simp only [Value.int.injEq, true_and, Value.slice.injEq] at e1 e2 e3 e4
        obtain ⟨rfl, rfl, rfl⟩ := e3
        obtain ⟨rfl, rfl, rfl⟩ := e4
        subst e1 e2
        have hbxy := below_trans HX.out.2.1 hb1
        clear n0 n1 n2 n3 c0 c39 c40 c41 c42 c44 HAP
        go_upto_region 19 with fail
        obtain ⟨nx, hnx⟩ : ∃ nx, wy.heap.size = nx := ⟨_, rfl⟩
        obtain ⟨wz, hwz⟩ : ∃ wz, wz = wy.alloc (.cells #[.int .i64 P1.nodes, .int .i64 P1.copies, .slice pa1 P1.parts.length pc1, .slice la1 P1.lives.length lc1] 52) := ⟨_, rfl⟩
        have hbz : Below wr.heap.size wr wz := by rw [hwz]; exact below_trans hbxy (below_alloc _ _)
        have hxz : wz.heap[xb]? = wx.heap[xb]? := by
          have h1 : xb < wx.heap.size := (Array.getElem?_eq_some_iff.1 HX.out.2.2).1
          rw [hwz, Below.heap_alloc _ _ _ (Nat.lt_of_lt_of_le h1 hb1.size)]
          exact hb1.block _ h1
        have hnz : NowAt wz (fun j => HmF hb b mb q L j ∨ j = nb) nx P1 := by
          refine ⟨pa1, la1, pc1, lc1, by rw [hwz, ← hnx]; exact heap_alloc_new _ _, ?_⟩
          have hs := hbxy.size
          have hnb : nb < wr.heap.size := by obtain ⟨_, _, _, _, h, -⟩ := HPW2.out.now; exact (Array.getElem?_eq_some_iff.1 h).1
          have h1 : PlanOff wy (fun j => HmF hb b mb q L j ∨ j = nb) (planV P1 pa1 pc1 la1 lc1) P1 := PlanOff.of_from hf1 (fun j hj => by
            have h2 := HX.out.2.1.size
            rcases hj with hj | rfl
            · have := HPW2.out.hm.fLt j hj; omega
            · omega)
          rw [hwz]; exact h1.below (below_alloc _ _)
        obtain ⟨d0, d39, d40, d41, d42, d44⟩ := HX.out.1 wz hxz
        have hmz := HPW2.out.hm.below hbz
        have hdo := HDo_any HWA.out.2.1 hmz x.ev
        obtain ⟨r1, r2, r3, e0, hdr⟩ : ∃ r1 r2 r3 e0, doR t P t.life false x.ev = (r1, r2, r3, e0) := ⟨_, _, _, _, rfl⟩
        have hdd := doR_disk HPW2.out.disk HPW2.out.fold (by have := HPW2.out.few; omega) x.ev
        rw [hdr, HQ.out] at hdd
        rw [hdr] at hdo
        have HDO := Lib.hid hdo
        have HDD := Lib.hid hdd
        have hnbx : nb < xb ∧ xb < nx := by
          have hnb : nb < wr.heap.size := by obtain ⟨_, _, _, _, h, -⟩ := HPW2.out.now; exact (Array.getElem?_eq_some_iff.1 h).1
          have h1 : xb < wx.heap.size := (Array.getElem?_eq_some_iff.1 HX.out.2.2).1
          have h2 := hb1.size
          omega
        have HNB := Lib.hid hnbx
        have HZ := Lib.hid (And.intro hbz (And.intro hxz (And.intro hnz hmz)))
        rw [← hwz, hnx]
        clear hnbx
        clear hwz hbz hxz hnz hmz hdo hdd hdr hnx hf1 hb1 hbxy
        go_wp2_with fail
        refine HDO.out.mono ?_
        rintro _ w5 hd
        obtain ⟨lv, nm, ms, L5, v5, rfl, hm5, hu5, hn5, -, hown5, -, -, hof5⟩ := hd
        have hG5 : ∀ j, HmF hb b mb q L5 j ∨ j = nb → (HmF hb b mb q L j ∨ j = nb) ∨ wz.heap.size ≤ j := by
          rintro j ((e | e | e | e | hj) | e)
          · exact .inl (.inl (.inl e))
          · exact .inl (.inl (.inr (.inl e)))
          · exact .inl (.inl (.inr (.inr (.inl e))))
          · exact .inl (.inl (.inr (.inr (.inr (.inl e)))))
          · exact (hn5 j hj).imp (fun hj => .inl (.inr (.inr (.inr (.inr hj))))) id
          · exact .inl (.inr e)
        have hnow5 : NowAt w5 (fun j => HmF hb b mb q L5 j ∨ j = nb) nb P := (HPW2.out.now.below HZ.out.1).moved hu5 (fun j hj => .inl hj) (HZ.out.2.2.2.notPlan (HPW2.out.now.below HZ.out.1)) hG5
        have hnxt5 : NowAt w5 (fun j => HmF hb b mb q L5 j ∨ j = nb) nx P1 := HZ.out.2.2.1.moved hu5 (fun j hj => .inl hj) (HZ.out.2.2.2.notPlan HZ.out.2.2.1) hG5
        have hx5 : w5.heap[xb]? = wx.heap[xb]? := by
          have h1 := HZ.out.2.1.trans HX.out.2.2
          exact (hu5.block xb (Array.getElem?_eq_some_iff.1 h1).1 (HZ.out.2.2.2.notKind h1 (by decide) (by decide) (by decide))).trans HZ.out.2.1
        have hoff5 : PlanOff w5 (fun j => HmF hb b mb q L5 j ∨ j = nb) v5 r2 := by
          have hnb : nb < wz.heap.size := by obtain ⟨_, _, _, _, h, -⟩ := HPW2.out.now.below HZ.out.1; exact (Array.getElem?_eq_some_iff.1 h).1
          refine (hof5 (fun j => HmF hb b mb q L j ∨ j = nb) (fun j hj => .inl hj) (fun j hj => hj.elim (HZ.out.2.2.2.fLt j) (fun e => by rw [e]; exact hnb)) (HPW2.out.off.below HZ.out.1)).grow (fun j hj => .inl (.inl ?_))
          rcases hj with (e | e | e | e | hj) | e
          · exact .inl (.inl (.inl e))
          · exact .inl (.inl (.inr (.inl e)))
          · exact .inl (.inl (.inr (.inr (.inl e))))
          · exact .inl (.inl (.inr (.inr (.inr (.inl e)))))
          · exact .inr hj
          · exact .inl (.inr e)
        have H5 := Lib.hid (And.intro hm5 (And.intro hnow5 (And.intro hnxt5 (And.intro hx5 hoff5))))
        clear hoff5 hm5 hu5 hn5 hown5 hof5 hG5 hnow5 hnxt5 hx5 d0 d39 d40 d41 d42 d44 HZ HDO
        have he0 : (e0 = 0 → c1 = 0) := by
          rcases HDD.out with ⟨h1, h2⟩ | ⟨h1, -⟩ | ⟨h1, -⟩
          · simp only [Prod.mk.injEq] at h2; intro h3; rw [← h3]; exact h2.2.2.2.symm
          · exact fun _ => h1
          · exact fun _ => h1
        obtain ⟨z0, hz0⟩ : ∃ z0, (e0 == 0) = z0 := ⟨_, rfl⟩
        have HE0 := Lib.hid (And.intro he0 hz0)
        clear he0
        go_upto_if 78 with fail
        go_cut [] from 79 to 81 (fun wc => HmW wA wc hb b mb q L5 r1 v5 r2 [] t.life r3 ∧ PlanOff wc (fun j => HmF hb b mb q L5 j ∨ j = nb) v5 r2 ∧ NowAt wc (fun j => HmF hb b mb q L5 j ∨ j = nb) nb (if e0 = 0 then P1 else P) ∧ NowAt wc (fun j => HmF hb b mb q L5 j ∨ j = nb) nx P1 ∧ wc.heap[xb]? = wx.heap[xb]?)
        case first =>
          cases z0 with
          | true =>
            have he : e0 = 0 := by simpa using HE0.out.2
            have hc : c1 = 0 := HE0.out.1 he
            subst he
            subst hc
            obtain ⟨pb, lb, pcb, lcb, hob, b0, b1, b2, b3⟩ := H5.out.2.2.1.off
            obtain ⟨_, _, _, _, -, q0', q1', q2', q3', qf⟩ := H5.out.2.1.cells
            have qf0 := qf 0
            have qf1 := qf 1
            have qf2 := qf 2
            have qf3 := qf 3
            obtain ⟨hz1, hz2⟩ := H5.out.2.1.set hob (.inr rfl)
            have hnb : ¬ HmF hb b mb q L5 nb := H5.out.1.notPlan H5.out.2.1
            have HZ := Lib.hid (And.intro hz1 (And.intro hz2 hnb))
            clear hz1 hz2 hnb hob qf
            go_wp2_with fail
            go_meet
            have hnn := HNB.out
            refine ⟨H5.out.1.other HZ.out.2.1 HZ.out.2.2 HPW.out.2 H5.out.2.2.2.2, H5.out.2.2.2.2.upd HZ.out.2.1 (fun j e => .inr e), by simpa using HZ.out.1, H5.out.2.2.1.moved HZ.out.2.1 (fun j e => .inr e) (by omega) (fun j hj => .inl hj), ?_⟩
            have h1 := H5.out.2.2.2.1
            have h2 := h1.trans HX.out.2.2
            exact (HZ.out.2.1.block xb (Array.getElem?_eq_some_iff.1 h2).1 (by omega)).trans h1
          | false =>
            have he : ¬ e0 = 0 := by simpa using HE0.out.2
            go_wp2_with fail
            go_meet
            rw [if_neg he]
            exact ⟨H5.out.1, H5.out.2.2.2.2, H5.out.2.1, H5.out.2.2.1, H5.out.2.2.2.1⟩
        obtain ⟨hm6, ho6, hn6, hx6, hxb6⟩ := hcut
        obtain ⟨d0, -, -, -, -, -⟩ := HX.out.1 _ hxb6
        obtain ⟨k4, hk4⟩ : ∃ k4, (x.kind == 4) = k4 := ⟨_, rfl⟩
        obtain ⟨e10, he10⟩ : ∃ e10, (e0 != 10) = e10 := ⟨_, rfl⟩
        have hkk : (k4 = true ↔ x.kind = 4) ∧ (e10 = true ↔ e0 ≠ 10) := by rw [← hk4, ← he10]; simp
        have H6 := Lib.hid (And.intro hm6 (And.intro ho6 (And.intro hn6 (And.intro hx6 (And.intro hxb6 hkk)))))
        clear hm6 ho6 hn6 hx6 hxb6 hkk H5
        obtain ⟨wq, hwq⟩ : ∃ wq, wc = wq := ⟨_, rfl⟩
        rw [hwq] at d0 H6 ⊢
        clear hwq
        go_upto_region 24 with fail
        go_cut [88] from 82 to 87 (fun v88 wc2 => wc2 = wq ∧ v88 = .bool (k4 && e10))
        case first =>
          cases k4 <;> cases e10
          all_goals
            go_wp2_with fail
            go_meet
            exact ⟨rfl, rfl⟩
        obtain ⟨hw1, rfl⟩ := hcut
        rw [hw1]
        clear hw1
        obtain ⟨zk, hzk⟩ : ∃ zk, (k4 && e10) = zk := ⟨_, rfl⟩
        rw [hzk]
        go_upto_if 88 with fail
        go_cut [17, 19] from 88 to 88 (fun v17 v19 wc2 => wc2 = wq ∧ ∃ e' f' : Int, v19 = .int .i64 e' ∧ v17 = .int .i64 f' ∧ ((zk = true ∧ e' = 10 ∧ f' = 1) ∨ (zk = false ∧ e' = e0 ∧ f' = c1)))
        case first =>
          cases zk with
          | true =>
            go_wp2_with fail
            go_meet
            exact ⟨rfl, 10, 1, rfl, rfl, .inl ⟨by trivial, by trivial, by trivial⟩⟩
          | false =>
            go_wp2_with fail
            go_meet
            exact ⟨rfl, e0, c1, rfl, rfl, .inr ⟨by trivial, by trivial, by trivial⟩⟩
        obtain ⟨hw1, e', f', rfl, rfl, hef⟩ := hcut
        rw [hw1]
        clear hw1
        -- what is so behind the tests
        have hz : zk = true ↔ (x.kind = 4 ∧ e0 ≠ 10) := by
          obtain ⟨-, -, -, -, -, h1, h2⟩ := H6.out
          rw [← hzk, Bool.and_eq_true, h1, h2]
        by_cases he : e' = 10
        · subst he
          have hlost : ∃ es1 y Pn, Lost (offT r1) es1 y ∧ (offT r1).down = true ∧ foldE P0 es1 = some Pn ∧ es1.length ≤ 2 * k + 1 ∧ (if e0 = 0 then P1 else P) = Pn ∧ (y = [] ∨ (y = frameB (encE x.ev) ∧ (applyP Pn x.ev).2.2 = 0)) ∧ (y = frameB (encE x.ev) → f' = 0 ∧ P1 = (applyP Pn x.ev).1) := by
            have hfw := HPW2.out.few
            have hfr : ([] : List UInt8) ≠ frameB (encE x.ev) := by
              intro e
              have := congrArg List.length e
              rw [frameB_len] at this
              simp at this
              omega
            rcases HDD.out with ⟨h1, h2⟩ | ⟨h1, t', h2, h3, h4, -⟩ | ⟨h1, t', h2, h3, h4, -⟩
            · simp only [Prod.mk.injEq] at h2
              obtain ⟨rfl, rfl, rfl, rfl⟩ := h2
              exact ⟨es, [], r2, HPW2.out.disk.off.1, HPW2.out.disk.off.2, HPW2.out.fold, by omega, if_neg h1, .inl rfl, fun e => absurd e hfr⟩
            · simp only [Prod.mk.injEq] at h2
              obtain ⟨rfl, rfl, rfl, rfl⟩ := h2
              have := foldE_snoc x.ev es HPW2.out.fold (by rw [HQ.out]; exact h1)
              rw [HQ.out] at this
              exact ⟨es ++ [x.ev], [], r2, h3.off.1, h3.off.2, this, by simp; omega, if_pos rfl, .inl rfl, fun e => absurd e hfr⟩
            · simp only [Prod.mk.injEq] at h2
              obtain ⟨rfl, rfl, rfl, rfl⟩ := h2
              have hf0 : f' = 0 := by
                rcases hef with ⟨g1, -, -⟩ | ⟨-, -, g1⟩
                · exact absurd rfl (hz.1 g1).2
                · exact g1.trans h1
              rw [offT_down h3]
              exact ⟨es, frameB (encE x.ev), r2, h4, h3, HPW2.out.fold, by omega, if_neg (by decide), .inr ⟨rfl, by rw [HQ.out]; exact h1⟩, fun _ => ⟨hf0, by rw [HQ.out]⟩⟩
          obtain ⟨es1, y, Pn, hls, hld, hfo, hes, hPn, hy, hyP⟩ := hlost
          obtain ⟨hm6, ho6, hn6, hx6, hxb6, -⟩ := H6.out
          rw [hPn] at hn6
          have hnF := hm6.notPlan hn6
          have hxF := hm6.notPlan hx6
          have hbF : ¬ HmF hb b mb q L5 xb := hm6.notKind (hxb6.trans HX.out.2.2) (by decide) (by decide) (by decide)
          have htp := hm6.tape
          have hof := TOff_any htp.1
          have HOF := Lib.hid hof
          have HQ6 := Lib.hid (And.intro hn6 (And.intro hx6 (And.intro hxb6 (And.intro hnF (And.intro hxF (And.intro hbF htp))))))
          have HL := Lib.hid (And.intro hls (And.intro hld (And.intro hfo (And.intro hes (And.intro hy hyP)))))
          clear hls hld hfo hes hPn hy hyP hm6 ho6 hn6 hx6 hxb6 hnF hxF hbF htp hof hef hz hzk hk4 he10 d0 HDD H6
          go_wp2_with fail
          refine HOF.out.mono ?_
          rintro _ w6 ⟨rfl, ht6, hu6⟩
          obtain ⟨hn6, hx6, hxb6, hnF, hxF, hbF, htp1, htp2, htp3⟩ := HQ6.out
          have hu6' : Upd (TpF b mb L5) wq w6 := hu6.or (fun j e => .inl e)
          have hTF : ∀ j, TpF b mb L5 j → HmF hb b mb q L5 j := fun j hj => .inr (.inr hj)
          have hb6 : Below wA.heap.size wA w6 := htp2.trans (hu6'.toBelow htp2.size htp3)
          have hn6' : NowAt w6 (fun j => HmF hb b mb q L5 j ∨ j = nb) nb Pn := hn6.moved hu6' (fun j hj => .inl (hTF j hj)) (fun h => hnF (hTF _ h)) (fun j hj => .inl hj)
          have hx6' : NowAt w6 (fun j => HmF hb b mb q L5 j ∨ j = nb) nx P1 := hx6.moved hu6' (fun j hj => .inl (hTF j hj)) (fun h => hxF (hTF _ h)) (fun j hj => .inl hj)
          have hxb7 : w6.heap[xb]? = wx.heap[xb]? := (hu6'.block xb (Array.getElem?_eq_some_iff.1 (hxb6.trans HX.out.2.2)).1 (fun h => hbF (hTF _ h))).trans hxb6
          have hon := TOn_any ht6 (fun z hz => by
            rcases HL.out.1.files with ⟨-, -, e⟩ | e
            · rw [e] at hz; cases hz
            · rw [e] at hz
              rw [List.mem_singleton.1 hz]
              show planN.length ≤ 32
              decide) (fv := .slice fa x.fates.length fc) (l := x.fates) (fun W hu => HF8.out.2.below (hb6.trans (hu.toBelow hb6.size htp3)))
          obtain ⟨-, -, -, -, -, d44⟩ := HX.out.1 w6 hxb7
          have HON := Lib.hid hon
          have HS6 := Lib.hid (And.intro hb6 (And.intro hn6' (And.intro hx6' (And.intro hnF (And.intro hxF (And.intro hTF htp3))))))
          clear ht6 hu6 hn6 hx6 hxb6 hnF hxF hbF htp1 htp2 htp3 hu6' hTF hb6 hn6' hx6' hxb7 hon HQ6
          go_wp2_with fail
          refine HON.out.mono ?_
          rintro _ w7 ⟨rfl, L7, t7, ht7, hbk, ho7, hu7⟩
          obtain ⟨hb6, hn6, hx6, hnF, hxF, hTF, htp3⟩ := HS6.out
          unfold OnAt at ho7
          rw [if_pos HL.out.2.1] at ho7
          obtain ⟨o1, o2, o3, o4⟩ := HL.out.1.on ho7
          have hopn : ∃ t8 P8 es8, openR t7 P0 = (t8, P8, 0) ∧ t8.life = t7.life ∧ Disk t8 es8 ∧ foldE P0 es8 = some P8 ∧ es8.length ≤ es1.length + 1 ∧ (P8 = Pn ∨ (y = frameB (encE x.ev) ∧ P8 = (applyP Pn x.ev).1)) := by
            rcases o4 with ⟨g1, g2, g3⟩ | ⟨g, g1, g2⟩
            · exact openR_lost x.ev (g := 0) o1 o2 o3 HL.out.2.2.1 (.inl ⟨g1, g2, g3⟩) HL.out.2.2.2.2.1
            · exact openR_lost x.ev o1 o2 o3 HL.out.2.2.1 (.inr ⟨g1, g2⟩) HL.out.2.2.2.2.1
          obtain ⟨t8, P8, es8, hre, hl8, hd8, hf8, he8, hp8⟩ := hopn
          have hb7 : Below wA.heap.size wA w7 := hb6.trans (hu7.toBelow hb6.size htp3)
          have hTF7 : ∀ j, TpF b mb L7 j → TpF b mb L5 j := fun j hj => by unfold TpF at hj ⊢; rw [hbk] at hj; exact hj
          have hop := pwOpen HWA.out.2.1 hb7 (fun j hj => htp3 j (hTF7 j hj)) ht7 o3 HOK.out (by rw [HP0.out]; exact hre)
          have hn7 : NowAt w7 (fun j => HmF hb b mb q L5 j ∨ j = nb) nb Pn := hn6.moved hu7 (fun j hj => .inl (hTF j hj)) (fun h => hnF (hTF _ h)) (fun j hj => .inl hj)
          have hx7 : NowAt w7 (fun j => HmF hb b mb q L5 j ∨ j = nb) nx P1 := hx6.moved hu7 (fun j hj => .inl (hTF j hj)) (fun h => hxF (hTF _ h)) (fun j hj => .inl hj)
          have hgP8 := foldE_good es8 (by rw [← HP0.out]; exact newP_good HOK.out) hf8
          obtain ⟨f0, f1, f2, f3, f4, f5, f6, f7⟩ := HCF.out _ hb7
          have HOP := Lib.hid hop
          have H7 := Lib.hid (And.intro hn7 (And.intro hx7 (And.intro hTF7 (And.intro hgP8 (And.intro hl8 (And.intro hd8 (And.intro hf8 (And.intro he8 hp8))))))))
          clear hb6 hn6 hx6 hnF hxF hTF htp3 ho7 o1 o2 o3 o4 hre hl8 hd8 hf8 he8 hp8 hb7 hTF7 hop hn7 hx7 hgP8 ht7 hbk hu7 d44 HON HOF
          go_wp2_with fail
          refine HOP.out.mono ?_
          rintro _ w8 ⟨L8, hbN, qN, v8, rfl, hm8, hu8, hn8, hs8, hq8, ho8⟩
          obtain ⟨hb6, -, -, hnF, hxF, hTF, htp3⟩ := HS6.out
          obtain ⟨hn7, hx7, hTF7, hgP8, hl8, hd8, hf8, he8, hp8⟩ := H7.out
          have hnb7 : nb < w7.heap.size := by obtain ⟨_, _, _, _, h, -⟩ := hn7; exact (Array.getElem?_eq_some_iff.1 h).1
          have hG8 : ∀ j, HmF hbN b mb qN L8 j ∨ j = nb → (HmF hb b mb q L5 j ∨ j = nb) ∨ w7.heap.size ≤ j := by
            rintro j ((e | e | e | e | hj) | e)
            · exact .inr (by omega)
            · exact .inr (by omega)
            · exact .inl (.inl (hTF j (.inl e)))
            · exact .inl (.inl (hTF j (.inr (.inl e))))
            · exact (hn8 j hj).imp (fun hj => .inl (hTF j (hTF7 j (.inr (.inr hj))))) id
            · exact .inl (.inr e)
          have hN8 : NowAt w8 (fun j => HmF hbN b mb qN L8 j ∨ j = nb) nb Pn := hn7.moved hu8 (fun j hj => .inl (hTF j (hTF7 j hj))) (fun h => hnF (hTF _ (hTF7 _ h))) hG8
          have hX8 : NowAt w8 (fun j => HmF hbN b mb qN L8 j ∨ j = nb) nx P1 := hx7.moved hu8 (fun j hj => .inl (hTF j (hTF7 j hj))) (fun h => hxF (hTF _ (hTF7 _ h))) hG8
          have hO8 : PlanOff w8 (fun j => HmF hbN b mb qN L8 j ∨ j = nb) v8 P8 := ho8.grow (fun j hj => .inl (hj.elim .inr (fun e => .inl (by omega))))
          rw [← hl8] at hm8
          have hpl8 := fun W (hb' : Below w8.heap.size w8 W) => HPlan_from (hm8.below hb').hm hgP8
          have hcells : ∀ {m : Nat} {Q : Pl}, NowAt w8 (fun j => HmF hbN b mb qN L8 j ∨ j = nb) m Q → ∃ (pa la : Option Addr) (pc lc : Nat), ∀ W, Below w8.heap.size w8 W → PlanRd W (planV Q pa pc la lc) Q ∧ W.cell? ⟨m, 0, none⟩ = some (.int .i64 Q.nodes) ∧ W.cell? ⟨m, 1, none⟩ = some (.int .i64 Q.copies) ∧ W.cell? ⟨m, 2, none⟩ = some (.slice pa Q.parts.length pc) ∧ W.cell? ⟨m, 3, none⟩ = some (.slice la Q.lives.length lc) := by
            rintro m Q ⟨pa', la', pc', lc', g1, g2⟩
            refine ⟨pa', la', pc', lc', fun W hb' => ?_⟩
            have hx := (hb'.block _ (Array.getElem?_eq_some_iff.1 g1).1).trans g1
            exact ⟨(g2.below hb').rd, cells_of hx 0 _ rfl, cells_of hx 1 _ rfl, cells_of hx 2 _ rfl, cells_of hx 3 _ rfl⟩
          obtain ⟨pan, lan, pcn, lcn, hcn⟩ := hcells hN8
          obtain ⟨pax, lax, pcx, lcx, hcx⟩ := hcells hX8
          have HPL8 := Lib.hid hpl8
          have HCN := Lib.hid (And.intro hcn hcx)
          have H8 := Lib.hid (And.intro hm8 (And.intro hN8 (And.intro hX8 (And.intro hO8 (And.intro hd8 (And.intro hf8 (And.intro he8 hgP8)))))))
          have HP8 := Lib.hid hp8
          clear hm8 hu8 hn8 hs8 hq8 ho8 hb6 hnF hxF hTF htp3 hn7 hx7 hTF7 hgP8 hl8 hd8 hf8 he8 hp8 hnb7 hG8 hN8 hX8 hO8 hpl8 hcells hcn hcx f0 f1 f2 f3 f4 f5 f6 f7 HOP
          go_upto_region 33 with fail
          have hpq : ∀ W, Below w8.heap.size w8 W → Calls Tryz.prog 18 #[.pointer (some ⟨hbN, 0, none⟩)] W fun e w' => ∃ (pa la : Option Addr) (pc lc : Nat), e = .returned (planV P8 pa pc la lc) ∧ PlanRd w' (planV P8 pa pc la lc) P8 ∧ Below w8.heap.size w8 w' := by
            intro W h2
            refine (HPL8.out W h2).mono ?_
            rintro e w' ⟨pa, la, pc, lc, h3, h4, h5⟩
            exact ⟨pa, la, pc, lc, h3, h4.rd, h2.trans (h5.mono h2.size)⟩
          have hor : P8 = Pn ∨ (P8 = P1 ∧ f' = 0) := by
            rcases HP8.out with h | ⟨h1, h2⟩
            · exact .inl h
            · have := HL.out.2.2.2.2.2 h1
              exact .inr ⟨h2.trans this.2.symm, this.1⟩
          refine hp_r33 ?_ hpq HCN.out.1 HCN.out.2 hor (fun a' w' h => ?_)
          · kernel_rfl
          iterate 19 (obtain ⟨_, h⟩ := h)
          obtain ⟨hb9, rfl⟩ := h
          have H9 := Lib.hid hb9
          clear hpq hor hb9
          go_wp2_with fail
          refine (HPL8.out _ H9.out).mono ?_
          rintro _ w10 ⟨pa10, la10, pc10, lc10, rfl, hf10, hb10⟩
          have hbt := H9.out.trans (hb10.mono H9.out.size)
          obtain ⟨hm8, hN8, -, hO8, hd8, hf8, he8, -⟩ := H8.out
          have hO10 := hO8.below hbt
          have hN10 := hN8.below hbt
          have hm10 := hm8.below hbt
          have hnF10 := hm10.notPlan hN10
          have hq10 : PlanOff w10 (fun j => HmF hbN b mb qN L8 j ∨ j = nb) (planV P8 pa10 pc10 la10 lc10) P8 := PlanOff.of_from hf10 (fun j hj => by
            have h1 := H9.out.size
            rcases hj with hj | rfl
            · have := hm8.fLt j hj; omega
            · obtain ⟨_, _, _, _, h, -⟩ := hN8
              have := (Array.getElem?_eq_some_iff.1 h).1
              omega)
          obtain ⟨_, _, _, _, -, z0, z1, z2, z3, zf⟩ := hN10.cells
          have zf0 := zf 0
          have zf1 := zf 1
          have zf2 := zf 2
          have zf3 := zf 3
          obtain ⟨hs1, hs2⟩ := hN10.set hq10 (.inr rfl)
          have hm11 := hm10.other hs2 hnF10 HPW.out.2 hO10
          have hO11 := hO10.upd hs2 (fun j e => .inr e)
          have HZ := Lib.hid (And.intro hs1 (And.intro hm11 (And.intro hO11 (And.intro hd8 (And.intro hf8 (show es8.length ≤ 2 * (k + 1) by have := HL.out.2.2.2.1; omega))))))
          clear hs1 hs2 hm11 hO11 hd8 hf8 he8 hm8 hN8 hO8 hO10 hN10 hm10 hnF10 hq10 hbt hf10 hb10 zf
          obtain ⟨m, hm⟩ : ∃ m, l + 1 = m := ⟨_, rfl⟩
          have hlw : wrap64 ((l : Int) + 1) = (m : Int) := by unfold wrap64; omega
          go_upto_region 36 with fail
          obtain ⟨w11, hw11⟩ : ∃ w11, w11 = (((w10.setCell ⟨nb, 0, none⟩ (.int .i64 P8.nodes)).setCell ⟨nb, 1, none⟩ (.int .i64 P8.copies)).setCell ⟨nb, 2, none⟩ (.slice pa10 P8.parts.length pc10)).setCell ⟨nb, 3, none⟩ (.slice la10 P8.lives.length lc10) := ⟨_, rfl⟩
          rw [← hw11] at HZ ⊢
          clear hw11 z0 z1 z2 z3 zf0 zf1 zf2 zf3
          obtain ⟨bq, hbq⟩ : ∃ bq, decide (m < pw.length ∧ m < 5) = bq := ⟨_, rfl⟩
          have hml : m ≤ k + 1 := by omega
          go_upto_region 37 with fail
          have HM1 := Lib.hid hm
          clear hlw
          go_cut [137] from 130 to 136 (fun v137 wc => wc = w11 ∧ v137 = .bool bq)
          case first =>
            by_cases h1 : m < pw.length
            · have i1 : (l : Int) + 1 < (pw.length : Int) := by omega
              by_cases h2 : m < 5
              · have i2 : (l : Int) + 1 < 5 := by omega
                have h3 : bq = true := by rw [← hbq]; simp [h1, h2]
                subst h3
                clear hbq
                go_wp2_with fail
                go_meet
                exact ⟨rfl, rfl⟩
              · have i2 : ¬ (l : Int) + 1 < 5 := by omega
                have h3 : bq = false := by rw [← hbq]; simp [h2]
                subst h3
                clear hbq
                go_wp2_with fail
                go_meet
                exact ⟨rfl, rfl⟩
            · have i1 : ¬ (l : Int) + 1 < (pw.length : Int) := by omega
              have h3 : bq = false := by rw [← hbq]; simp [h1]
              subst h3
              clear hbq
              go_wp2_with fail
              go_meet
              exact ⟨rfl, rfl⟩
          obtain ⟨hw1, rfl⟩ := hcut
          rw [hw1]
          clear hw1
          have hbq2 : bq = true → m < pw.length := by rw [← hbq]; simp; exact fun h _ => h
          have HBQ := Lib.hid hbq2
          clear hbq hbq2
          go_upto_if 137 with fail
          obtain ⟨s1, m11, o11, d8, f8, e8⟩ := HZ.out
          cases bq with
          | true =>
            have hl2 : m < pw.length := HBQ.out rfl
            obtain ⟨wb, woff, wcap, e2, -, -, -, hcc⟩ := Rd.at (HWA.out.2.2.2.below m11.base) (by omega)
            obtain ⟨rfl, -⟩ : pa = some ⟨wb, woff, none⟩ ∧ pc = wcap := by simpa using e2
            have y0 : w11.cell? ⟨wb, woff + (l + 1), none⟩ = some (.int .i64 pw[m]) := by rw [HM1.out]; exact hcc m _ (intCells_get pw m hl2)
            obtain ⟨ar, har, harl⟩ := u64_mod pw[m] 40 (by omega)
            have hI : I64 (ar : Int) := ⟨by omega, by omega⟩
            have hw64 : wrap64 (ar : Int) = ar := IntWalk.wrap64_in _ (by omega)
            have hta := TArm_any m11.hm.tape hI
            have l1 : (l : Int) + 1 < (pw.length : Int) := by omega
            have l2 : (0 : Int) ≤ (l : Int) + 1 := by omega
            have HTA := Lib.hid hta
            have HM := Lib.hid (And.intro s1 (And.intro m11 (And.intro o11 (And.intro d8 (And.intro f8 e8)))))
            clear hcc e2 hI hta s1 m11 o11 d8 f8 e8 hm
            go_wp2_with fail
            refine HTA.out.mono ?_
            rintro _ w12 ⟨rfl, ht12, hu12⟩
            obtain ⟨s1, m11, o11, d8, f8, e8⟩ := HM.out
            have h12 : Pw wA w12 b mb nb P0 (k + 1) hbN qN L8 { t8 with armed := ((ar : Int)).toNat } v8 P8 es8 :=
              ⟨m11.armed ht12 hu12, o11.upd hu12 (fun j e => .inl (.inr (.inr (.inl e)))), s1.moved hu12 (fun j e => .inl (.inr (.inr (.inl e)))) (fun e => m11.notPlan s1 (.inr (.inr (.inl e)))) (fun j hj => .inl hj), d8.armed _, f8, e8⟩
            have H12 := Lib.hid h12
            clear ht12 hu12 s1 m11 o11 d8 f8 e8 h12
            go_wp2
            go_roundg (A.length - (k + 1))
            case measure => omega
            case rel => exact ⟨k + 1, l + 1, hbN, qN, L8, _, v8, P8, es8, by omega, by omega, rfl, by go_num, by go_num, by omega, rfl, H12.out⟩
          | false =>
            have HM := Lib.hid (And.intro s1 (And.intro m11 (And.intro o11 (And.intro d8 (And.intro f8 e8)))))
            clear s1 m11 o11 d8 f8 e8 hm
            go_wp2
            go_roundg (A.length - (k + 1))
            case measure => omega
            case rel =>
              obtain ⟨s1, m11, o11, d8, f8, e8⟩ := HM.out
              exact ⟨k + 1, l + 1, hbN, qN, L8, t8, v8, P8, es8, by omega, by omega, rfl, by go_num, by go_num, by omega, rfl, m11, o11, s1, d8, f8, e8⟩
        · have hef2 : zk = false ∧ e' = e0 ∧ f' = c1 := by
            rcases hef with ⟨-, h, -⟩ | h
            · exact absurd h he
            · exact h
          obtain ⟨hzf, rfl, rfl⟩ := hef2
          have hcase : ∃ es', e' = f' ∧ Disk r1 es' ∧ foldE P0 es' = some r2 ∧ es'.length ≤ 2 * (k + 1) ∧ r3 = false ∧ r1.life = t.life ∧ (if e' = 0 then P1 else P) = r2 := by
            have hfw := HPW2.out.few
            rcases HDD.out with ⟨h1, h2⟩ | ⟨h1, t', h2, h3, h4, -⟩ | ⟨h1, t', h2, -⟩
            · simp only [Prod.mk.injEq] at h2
              obtain ⟨rfl, rfl, rfl, rfl⟩ := h2
              exact ⟨es, rfl, HPW2.out.disk, HPW2.out.fold, by omega, rfl, rfl, if_neg h1⟩
            · simp only [Prod.mk.injEq] at h2
              obtain ⟨rfl, rfl, rfl, rfl⟩ := h2
              refine ⟨es ++ [x.ev], h1.symm, h3, ?_, by simp; omega, rfl, h4, if_pos rfl⟩
              have := foldE_snoc x.ev es HPW2.out.fold (by rw [HQ.out]; exact h1)
              rw [HQ.out] at this
              exact this
            · simp only [Prod.mk.injEq] at h2
              exact absurd h2.2.2.2 he
          obtain ⟨es', h1, h2, h3, h4, h5, h6, h7⟩ := hcase
          have hpw' : Pw wA wq b mb nb P0 (k + 1) hb q L5 r1 v5 r2 es' := by
            obtain ⟨a1, a2, a3, -⟩ := H6.out
            rw [h7] at a3
            rw [h5, ← h6] at a1
            exact ⟨a1, a2, a3, h2, h3, h4⟩
          have HP' := Lib.hid hpw'
          have q1 : (e' != 10) = true := by simpa using he
          have q2 : (e' != f') = false := by rw [h1]; simp
          clear h1 h2 h3 h4 h5 h6 h7 hpw' hef hz hzf hzk hk4 he10 d0
          go_wp2
          go_roundg (A.length - (k + 1))
          case measure => omega
          case rel => exact ⟨k + 1, l, hb, q, L5, r1, v5, r2, es', by omega, by omega, rfl, by go_num, rfl, by omega, rfl, HP'.out⟩
      · have hgP := foldE_good es (by rw [← HP0.out]; exact newP_good HOK.out) hpw.fold
        have hbf : Below w.heap.size w wr := HWA.out.1.trans (hpw.hm.base.mono HWA.out.1.size)
        have hpq : ∀ W, Below wr.heap.size wr W → Calls Tryz.prog 18 #[.pointer (some ⟨hb, 0, none⟩)] W fun e w' => ∃ (pa la : Option Addr) (pc lc : Nat), e = .returned (planV P pa pc la lc) ∧ PlanRd w' (planV P pa pc la lc) P ∧ Below wr.heap.size wr w' := by
          intro W h2
          refine (HPlan_from (hpw.hm.below h2).hm hgP).mono ?_
          rintro e w' ⟨pa, la, pc, lc, h3, h4, h5⟩
          exact ⟨pa, la, pc, lc, h3, h4.rd, h2.trans (h5.mono h2.size)⟩
        have hcn : ∃ (pan lan : Option Addr) (pcn lcn : Nat), ∀ W, Below wr.heap.size wr W → PlanRd W (planV P pan pcn lan lcn) P ∧ W.cell? ⟨nb, 0, none⟩ = some (.int .i64 P.nodes) ∧ W.cell? ⟨nb, 1, none⟩ = some (.int .i64 P.copies) ∧ W.cell? ⟨nb, 2, none⟩ = some (.slice pan P.parts.length pcn) ∧ W.cell? ⟨nb, 3, none⟩ = some (.slice lan P.lives.length lcn) := by
          obtain ⟨pa', la', pc', lc', g1, g2⟩ := hpw.now
          refine ⟨pa', la', pc', lc', fun W hb' => ?_⟩
          have hx := (hb'.block _ (Array.getElem?_eq_some_iff.1 g1).1).trans g1
          exact ⟨(g2.below hb').rd, cells_of hx 0 _ rfl, cells_of hx 1 _ rfl, cells_of hx 2 _ rfl, cells_of hx 3 _ rfl⟩
        obtain ⟨pan, lan, pcn, lcn, hcn⟩ := hcn
        have HBF := Lib.hid hbf
        have HPQ := Lib.hid (And.intro hpq hcn)
        clear hbf hpq hcn hpw hgP
        by_cases hkt : k < A.length
        · have j1 : (k : Int) < (A.length : Int) := by omega
          have j3 : ¬ (k : Int) < 60 := by omega
          clear hin
          go_upto_region 39 with fail
          refine hp_r39 ?_ HPQ.out.1 HPQ.out.2 (fun a' w' h => ?_)
          · kernel_rfl
          iterate 4 (obtain ⟨_, h⟩ := h)
          obtain ⟨hb9, rfl⟩ := h
          have hfin := HBF.out.trans (hb9.mono HBF.out.size)
          have HFI := Lib.hid hfin
          clear hb9 hfin
          go_wp2
          go_ret
          exact ⟨rfl, HFI.out⟩
        · have j1 : ¬ (k : Int) < (A.length : Int) := by omega
          clear hin
          go_upto_region 39 with fail
          refine hp_r39 ?_ HPQ.out.1 HPQ.out.2 (fun a' w' h => ?_)
          · kernel_rfl
          iterate 4 (obtain ⟨_, h⟩ := h)
          obtain ⟨hb9, rfl⟩ := h
          have hfin := HBF.out.trans (hb9.mono HBF.out.size)
          have HFI := Lib.hid hfin
          clear hb9 hfin
          go_wp2
          go_ret
          exact ⟨rfl, HFI.out⟩
end Go.Proofs.YtcpaaleogmiamaaGreatDoor
