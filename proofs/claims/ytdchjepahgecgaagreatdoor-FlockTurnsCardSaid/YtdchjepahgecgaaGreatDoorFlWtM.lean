/- The walk of FlockTurns. -/
import Derived.Test.YtdchjepahgecgaaGreatDoorFlWt1M
import Derived.Test.YtdchjepahgecgaaGreatDoorFlWt2M
import Derived.Test.YtdchjepahgecgaaGreatDoorFlWt3M
import Derived.Test.YtdchjepahgecgaaGreatDoorFlWt4M
import Derived.Deep.CutBlock
import Derived.Deep.RegionHeld3
import Derived.Deep.DeepCutAuto
namespace Go.Proofs.YtdchjepahgecgaaGreatDoor
open Go.RowKit

set_option maxRecDepth 100000 in
set_option maxHeartbeats 8000000 in
theorem FTurns_any {w : World} {v : Value} {asks : List Rq} (h : ReqsRd w v asks) (parts : Int) (hE : Env w) : Calls Tryz.prog 4 #[.int .i64 parts, v] w fun e w' => e = .returned (.bool true) ∧ Below w.heap.size w w' := by
  obtain ⟨a, cap, rfl, -, hml, hC⟩ := h.cells
  have hml' : (asks.length : Int) ≤ 9223372036854775807 := by have : maxLen = 9223372036854775807 := rfl; omega
  have haw := L11awake_any hE
  have HE0 := Lib.hid (fun W (hb : Below w.heap.size w W) => hE.below hb)
  have HC := Lib.hid hC
  have HAW := Lib.hid haw
  clear h hC hml haw hE
  by_cases ha : 80 < asks.length
  · have ha' : (80 : Int) < (asks.length : Int) := by omega
    go_enter Tryz.func4, Tryz.ntmps4
    go_wp2_with (first | (go_at_call 8; refine HAW.out.mono ?_; rintro _ w1 ⟨rfl, hb1⟩))
    go_ret
    exact ⟨rfl, hb1⟩
  have ha' : ¬ (80 : Int) < (asks.length : Int) := by omega
  go_enter Tryz.func4, Tryz.ntmps4
  go_upto_region 3 with (first | (go_at_call 8; refine HAW.out.mono ?_; rintro _ w1 ⟨rfl, hb1⟩))
  obtain ⟨hp0, hp4⟩ := five_in parts
  go_upto_region 6 with fail
  generalize wrap64 ((IntKind.u64.wrap parts).tmod 5) = pp at *
  go_wp2
  have HPP := Lib.hid (And.intro hp0 hp4)
  go_loopg [5, 6] asks.length (fun gk va i wr => ∃ (k : Nat) (L : List Fk), k ≤ asks.length ∧ gk = asks.length - k ∧ i = .int .i64 k ∧ Below w.heap.size w wr ∧ FksRd wr va L ∧ Inv L k)
  case atStart => exact ⟨0, [], Nat.zero_le _, rfl, rfl, hb1.alloc hb1.size _, FksRd.empty _ _, Inv.nil _⟩
  case round =>
    obtain ⟨k, L, hk, rfl, rfl, hbel, hL, iL⟩ := hrel
    obtain ⟨la, lcap, rfl, -⟩ := hL.cells
    have HR := Lib.hid (And.intro hbel (And.intro hL iL))
    have hszr := hbel.size
    clear hbel hL iL hb1
    by_cases hlt : k < asks.length
    · obtain ⟨b, off, rfl, hb, hq⟩ := HC.out k hlt
      have hq := hq.below hb HR.out.1
      have i1' : (k : Int) < (asks.length : Int) := by omega
      have i2 : (0 : Int) ≤ (k : Int) := by omega
      generalize asks[k] = q at *
      obtain ⟨z0, z1, z2, z3, z4, z5, z6, z7, z8, z9, z10⟩ := hq
      obtain ⟨wq, hwq⟩ : ∃ wq, wq = wr.alloc q.box := ⟨_, rfl⟩
      have hbq : Below wr.heap.size wr wq := by rw [hwq]; exact below_alloc _ _
      have hNq : wq.heap[wr.heap.size]? = some q.box := by rw [hwq]; exact heap_alloc_new wr _
      have hszq : wq.heap.size = wr.heap.size + 1 := by rw [hwq]; simp
      have hkq : ∀ W, Below wq.heap.size wq W → RqAt W wr.heap.size 0 q ∧ FksRd W (.slice la L.length lcap) L ∧ Below w.heap.size w W ∧ Env W := by
        intro W hb
        have h2 := hbq.trans (hb.mono (by omega))
        have h3 := HR.out.1.trans (h2.mono hszr)
        exact ⟨box_rq ((hb.block _ (by omega)).trans hNq), HR.out.2.1.below h2, h3, HE0.out _ h3⟩
      have HQ := Lib.hid hkq
      have hqb : wr.heap.size < wq.heap.size := by omega
      clear hbq hNq hkq hb
      go_upto_region 11 with fail
      rw [← hwq]
      clear hwq z0 z1 z2 z3 z4 z5 z6 z7 z8 z9 z10
      generalize wr.heap.size = qb at *
      obtain ⟨⟨x0, x1, x2, x3, x4, x5, x6, x7, x8, x9, x10⟩, -⟩ := HQ.out _ (Below.refl _ _)
      have l1 : (bs q.group).size = q.group.length := bs_size _
      have l2 : (bs q.member).size = q.member.length := bs_size _
      by_cases hqg : 200 < q.group.length
      · have hqg' : (200 : Int) < (q.group.length : Int) := by omega
        go_wp2
        go_ret
        exact ⟨rfl, (HQ.out _ (Below.refl _ _)).2.2.1⟩
      by_cases hqm : 200 < q.member.length
      · have hqm' : (200 : Int) < (q.member.length : Int) := by omega
        have hqg' : ¬ (200 : Int) < (q.group.length : Int) := by omega
        go_wp2
        go_ret
        exact ⟨rfl, (HQ.out _ (Below.refl _ _)).2.2.1⟩
      have hqg' : ¬ (200 : Int) < (q.group.length : Int) := by omega
      have hqm' : ¬ (200 : Int) < (q.member.length : Int) := by omega
      have htl := turn_law HR.out.2.2 (by omega) HPP.out q
      have hin := next_inv HR.out.2.2 (by omega) pp q
      have hans : answerP (nextF L pp q) (decideF L pp q).1 (decideF L pp q).2 false q = ansF L pp q := by rw [answerP, dec_read HR.out.2.2 (by omega)]; rfl
      obtain ⟨dl1, dl2⟩ := dec_len HR.out.2.2 (by omega) pp q
      have hd1 : Calls Tryz.prog 14 #[(.slice la L.length lcap), .int .i64 pp, q.v] wq (RecTo wq (decideF L pp q).1 (decideF L pp q).2) :=
        decide_inv (HQ.out _ (Below.refl _ _)).2.1 HR.out.2.2 q (by omega) (by omega) pp (HQ.out _ (Below.refl _ _)).2.2.2
      have ha1 : ∀ W, Below wq.heap.size wq W → Calls Tryz.prog 10 #[(.slice la L.length lcap), .agg #[.int .i64 0, .string (bs (decideF L pp q).1), .string (bs (decideF L pp q).2), .bool false]] W (ApplyTo W (nextF L pp q)) := fun W hb =>
        apply_inv (HQ.out W hb).2.1 HR.out.2.2 (by omega) q pp 0 (HQ.out W hb).2.2.2
      have hgr1 : ∀ W, Below wq.heap.size wq W → Calls Tryz.prog 16 #[(.slice la L.length lcap), .string (bs q.group)] W (GroupTo W (grp L q.group) (hasFk L q.group)) := fun W hb => group_any (HQ.out W hb).2.1 q.group
      have hW : 0 ≤ (grp L q.group).gen ∧ (grp L q.group).gen ≤ 1000 := by
        obtain ⟨-, -, h1, h2, -⟩ := HR.out.2.2.the q.group
        rw [(grp_the HR.out.2.2.ok.up q.group).1]; omega
      have hL4 : L.length ≤ 4 := HR.out.2.2.ok.len
      have hV4 : (grp (nextF L pp q) q.group).parts ≤ 4 := by
        obtain ⟨-, hok, -⟩ := hin.the q.group
        rw [(grp_the hin.ok.up q.group).2.1]; exact hok.parts.2
      have HIN := Lib.hid hin
      have HTL := Lib.hid htl
      have HAN := Lib.hid hans
      have HD := Lib.hid hd1
      have HA := Lib.hid ha1
      have HG1 := Lib.hid hgr1
      clear htl hin hans hd1 ha1 hgr1
      generalize (decideF L pp q).1 = dk at *
      generalize (decideF L pp q).2 = dv at *
      generalize ansF L pp q = R at *
      generalize nextF L pp q = N at *
      generalize grp L q.group = W1 at *
      generalize hasFk L q.group = hasw at *
      go_upto_region 14 with (first | (go_at_call 14; refine HD.out.mono ?_; rintro _ w3 ⟨rfl, hb3⟩))
      obtain ⟨wx, hwx⟩ : ∃ wx, wx = w3.alloc (Rc.box ⟨0, dk, dv, false⟩) := ⟨_, rfl⟩
      obtain ⟨xb, hxb⟩ : ∃ xb, xb = w3.heap.size := ⟨_, rfl⟩
      have hX : wx.heap[xb]? = some (Rc.box ⟨0, dk, dv, false⟩) := by rw [hwx, hxb]; exact heap_alloc_new _ _
      have hbx : Below wq.heap.size wq wx := by rw [hwx]; exact hb3.alloc hb3.size _
      rw [← hwx, ← hxb]
      clear hwx hxb hb3 x0 x1 x2 x3 x4 x5 x6 x7 x8 x9 x10
      have p0 := cells_of hX 0 _ rfl
      have p1 := cells_of hX 1 _ rfl
      have p2 := cells_of hX 2 _ rfl
      have p3 := cells_of hX 3 _ rfl
      have HX := Lib.hid (And.intro hX hbx)
      have hsx := hbx.size
      clear hX hbx
      go_upto_region 15 with (first | (go_at_call 10; refine (HA.out _ HX.out.2).mono ?_; rintro _ w4 ⟨v4, rfl, ho4, hb4⟩))
      have H4 := Lib.hid (And.intro ho4.rd (And.intro (box_below HX.out.1 hb4) (HX.out.2.trans (hb4.mono hsx))))
      clear ho4 hb4 p0 p1 p2 p3
      obtain ⟨⟨x0, x1, x2, x3, x4, x5, x6, x7, x8, x9, x10⟩, -, -, hE4⟩ := HQ.out _ H4.out.2.2
      have p0 := cells_of H4.out.2.1 0 _ rfl
      have p1 := cells_of H4.out.2.1 1 _ rfl
      have p2 := cells_of H4.out.2.1 2 _ rfl
      have p3 := cells_of H4.out.2.1 3 _ rfl
      have hfa := answer_inv H4.out.1 HIN.out dl1 dl2 HAN.out hE4
      have HFA := Lib.hid hfa
      clear hfa hE4
      go_upto_region 16 with (first | (go_at_call 15; refine HFA.out.mono ?_; rintro _ w6 ⟨ra, rc, rfl, -, hb6⟩))
      obtain ⟨w7, hw7⟩ : ∃ w7, w7 = w6.alloc (R.box ra rc) := ⟨_, rfl⟩
      obtain ⟨rb, hrb⟩ : ∃ rb, rb = w6.heap.size := ⟨_, rfl⟩
      have hRB : w7.heap[rb]? = some (R.box ra rc) := by rw [hw7, hrb]; exact heap_alloc_new _ _
      have hb7 : Below w4.heap.size w4 w7 := by rw [hw7]; exact hb6.alloc hb6.size _
      rw [← hw7, ← hrb]
      clear hw7 hrb hb6 x0 x1 x2 x3 x4 x5 x6 x7 x8 x9 x10 p0 p1 p2 p3
      have H7 := Lib.hid (And.intro hRB (And.intro (H4.out.1.below hb7) (H4.out.2.2.trans (hb7.mono H4.out.2.2.size))))
      clear hRB hb7
      obtain ⟨⟨x0, x1, x2, x3, x4, x5, x6, x7, x8, x9, x10⟩, -⟩ := HQ.out _ H7.out.2.2
      go_upto_region 17 with (first | (go_at_call 16; refine (HG1.out _ H7.out.2.2).mono ?_; rintro _ w2 ⟨ma, mc, pa, pc, rfl, hm2, hp2, hb2⟩))
      obtain ⟨ws, hws⟩ : ∃ ws, ws = w2.alloc (.cells #[.string (bs W1.name), .int .i64 W1.gen, .int .i64 W1.parts, .slice ma W1.members.length mc, .slice pa W1.points.length pc] 44) := ⟨_, rfl⟩
      obtain ⟨sb, hsb⟩ : ∃ sb, sb = w2.heap.size := ⟨_, rfl⟩
      have hS : GrpAt ws sb W1 ma mc pa pc := by rw [hws, hsb]; exact GrpAt.new hm2 hp2
      have hbs : Below w7.heap.size w7 ws := by rw [hws]; exact hb2.alloc hb2.size _
      rw [← hws, ← hsb]
      clear hws hsb hm2 hp2 hb2 x0 x1 x2 x3 x4 x5 x6 x7 x8 x9 x10
      have HS := Lib.hid (And.intro hS (And.intro (box_below H7.out.1 hbs) (And.intro (H7.out.2.1.below hbs) (H7.out.2.2.trans (hbs.mono H7.out.2.2.size)))))
      clear hS hbs
      obtain ⟨⟨x0, x1, x2, x3, x4, x5, x6, x7, x8, x9, x10⟩, -⟩ := HQ.out _ HS.out.2.2.2
      have hgr2 : Calls Tryz.prog 16 #[v4, .string (bs q.group)] ws (GroupTo ws (grp N q.group) (hasFk N q.group)) := group_any HS.out.2.2.1 q.group
      have HG2 := Lib.hid hgr2
      clear hgr2
      generalize grp N q.group = V at *
      generalize hasFk N q.group = his at *
      go_upto_region 18 with (first | (go_at_call 16; refine HG2.out.mono ?_; rintro _ w5 ⟨na, nc, oa, oc, rfl, hm5, hp5, hb5⟩))
      obtain ⟨wn, hwn⟩ : ∃ wn, wn = w5.alloc (.cells #[.string (bs V.name), .int .i64 V.gen, .int .i64 V.parts, .slice na V.members.length nc, .slice oa V.points.length oc] 44) := ⟨_, rfl⟩
      obtain ⟨nb, hnb⟩ : ∃ nb, nb = w5.heap.size := ⟨_, rfl⟩
      have hNB : GrpAt wn nb V na nc oa oc := by rw [hwn, hnb]; exact GrpAt.new hm5 hp5
      have hbn : Below ws.heap.size ws wn := by rw [hwn]; exact hb5.alloc hb5.size _
      rw [← hwn, ← hnb]
      clear hwn hnb hm5 hp5 hb5
      have hKN : ∀ W, Below wn.heap.size wn W → RqAt W qb 0 q ∧ GrpAt W sb W1 ma mc pa pc ∧ GrpAt W nb V na nc oa oc ∧ W.heap[rb]? = some (R.box ra rc) ∧ FksRd W v4 N ∧ FksRd W (.slice la L.length lcap) L ∧ Below w.heap.size w W ∧ qb < W.heap.size := by
        intro W hb
        have h2 := hbn.trans (hb.mono hbn.size)
        have h3 := HS.out.2.2.2.trans (h2.mono HS.out.2.2.2.size)
        obtain ⟨e1, e2, e3, e4⟩ := HQ.out _ h3
        exact ⟨e1, HS.out.1.below h2, hNB.below hb, box_below HS.out.2.1 h2, HS.out.2.2.1.below h2, e2, e3, by have := h3.size; omega⟩
      have HK := Lib.hid hKN
      have hbase : Below wn.heap.size wn wn := Below.refl _ _
      clear hNB hbn hKN H4 HX HS H7 HG1 HG2 HD HA HFA hsx x0 x1 x2 x3 x4 x5 x6 x7 x8 x9 x10 HQ
      obtain ⟨hq9, hs9, hn9, hr9, -⟩ := HK.out _ hbase
      obtain ⟨s0, s1, s2, s3, s4⟩ := hs9.cells
      obtain ⟨n0, n1, n2, n3, n4⟩ := hn9.cells
      obtain ⟨tn, htn⟩ : ∃ tn : Bool, decide (V.gen = W1.gen + 1) = tn := ⟨_, rfl⟩
      have hgw : wrap64 (W1.gen + 1) = W1.gen + 1 := by unfold wrap64; omega
      have hgw' : IntKind.i64.wrap (W1.gen + 1) = W1.gen + 1 := by rw [IntWalk.i64_left]; exact hgw
      have htb : (V.gen == W1.gen + 1) = tn := by rw [← htn]; by_cases e : V.gen = W1.gen + 1 <;> simp [e]
      have HTN := Lib.hid htn
      have HW2 := Lib.hid hW
      have HR9 := Lib.hid (And.intro hq9 (And.intro hs9 (And.intro hn9 hr9)))
      clear htn hW hq9 hs9 hn9 hr9
      go_upto_region 19 with fail
      clear s0 s1 s2 s3 s4 n0 n1 n2 n3 n4 hgw hgw' htb
      refine turns_r19 ?_ HR9.out.1 HR9.out.2.1 HR9.out.2.2.1 HR9.out.2.2.2 HTL.out HTN.out (fun a' w' h => ?_)
      · kernel_rfl
      obtain ⟨t84, t85, t86, t87, t88, t89, t90, t91, t92, t93, t94, t95, t96, t97, t98, t99, t100, t101, t102, t103, t104, t105, t106, t107, t108, t109, t110, t111, t112, t113, t114, t115, t116, rfl, rfl⟩ := h
      go_upto_region 21 with fail
      refine turns_r21 ?_ HR9.out.1 HR9.out.2.1 HR9.out.2.2.1 HR9.out.2.2.2 HTL.out HTN.out (fun a' w' h => ?_)
      · kernel_rfl
      obtain ⟨t118, t119, t120, t121, t122, t123, t124, t125, t126, t127, t128, t129, t130, t131, t132, t133, t134, t135, t136, t137, t138, t139, t140, t141, t142, t143, t144, t145, t146, t147, t148, t149, t150, t151, t152, t153, t154, t155, t156, rfl, rfl⟩ := h
      go_upto_block 2 with fail
      refine turns_b2 (rb := rb) (R := R) (ra := ra) (rc := rc) ?_ HR9.out.1 HR9.out.2.1 HR9.out.2.2.1 HTL.out.stay (fun a' w' h => ?_)
      · kernel_rfl
      obtain ⟨t4, t16, t158, t159, t160, t161, t162, t163, t164, t165, t166, t167, t168, t169, t170, t171, t172, t173, t174, t175, t176, t177, t178, t179, t180, t181, t182, t183, hb2, rfl⟩ := h
      have HB2 := Lib.hid hb2
      obtain ⟨k1, k2, k3, k4, k5, k6, k7, k8⟩ := HK.out _ hb2
      clear hb2
      go_upto_block 4 with fail
      refine turns_b4 (rb := rb) (R := R) (ra := ra) (rc := rc) ?_ k1 k2 k3 k6 k5 hL4 HTL.out.still (fun a' w' h => ?_)
      · kernel_rfl
      obtain ⟨t4, t17, t18, t19, t184, t185, t186, t187, t188, t189, t190, t191, t192, t193, t194, t195, t196, t197, t198, t199, t200, t201, t202, t203, t204, t205, t206, t207, t208, t209, t210, t211, t212, t213, t214, t215, t216, t217, t218, t219, t220, t221, t222, hb4, rfl⟩ := h
      have hb4' := HB2.out.trans (hb4.mono HB2.out.size)
      clear k1 k2 k3 k4 k5 k6 k7 k8 hb4
      have HB4 := Lib.hid hb4'
      obtain ⟨k1, k2, k3, k4, k5, k6, k7, k8⟩ := HK.out _ hb4'
      clear hb4'
      go_upto_region 34 with fail
      refine turns_r34 ?_ k1 k2 k3 k4 HTL.out HTN.out (fun a' w' h => ?_)
      · kernel_rfl
      obtain ⟨t223, t224, t225, t226, t227, t228, t229, t230, t231, t232, t233, t234, t235, t236, t237, t238, t239, rfl, rfl⟩ := h
      go_upto_block 6 with fail
      refine turns_b6 (rb := rb) (R := R) (ra := ra) (rc := rc) ?_ k1 k2 k3 hV4 HTL.out.own (fun a' w' h => ?_)
      · kernel_rfl
      obtain ⟨t4, t20, t21, t22, t241, t242, t243, t244, t245, t246, t247, t248, t249, t250, t251, t252, t253, t254, t255, t256, t257, t258, t259, t260, t261, t262, t263, t264, t265, t266, t267, t268, t269, t270, t271, t272, t273, hb6, rfl⟩ := h
      have hb6' := HB4.out.trans (hb6.mono HB4.out.size)
      clear k1 k2 k3 k4 k5 k6 k7 k8 hb6
      have HB6 := Lib.hid hb6'
      clear hb6'
      go_wp2
      go_roundg (asks.length - (k + 1))
      case measure => omega
      case rel =>
        obtain ⟨-, -, -, -, h5, -, h6, -⟩ := HK.out _ HB6.out
        exact ⟨k + 1, N, by omega, rfl, by go_num, h6, h5, HIN.out⟩
    · have i1' : ¬ (k : Int) < (asks.length : Int) := by omega
      go_wp2
      go_ret
      exact ⟨rfl, HR.out.1⟩
end Go.Proofs.YtdchjepahgecgaaGreatDoor
