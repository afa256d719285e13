/- The walk of FlockCommits. -/
import Derived.Test.YtdchjepahgecgaaGreatDoorMq42
import Derived.Deep.RegionHeld3
import Derived.Deep.DeepCutAuto
namespace Go.Proofs.YtdchjepahgecgaaGreatDoor
open Go.RowKit

set_option maxRecDepth 100000 in
set_option maxHeartbeats 8000000 in
theorem FCommits_any {w : World} {v : Value} {asks : List Rq} (h : ReqsRd w v asks) (parts : Int) (hE : Env w) : Calls Tryz.prog 5 #[.int .i64 parts, v] w fun e w' => e = .returned (.bool true) ∧ Below w.heap.size w w' := by
  obtain ⟨a, cap, rfl, -, hml, hC⟩ := h.cells
  have hml' : (asks.length : Int) ≤ 9223372036854775807 := by have : maxLen = 9223372036854775807 := rfl; omega
  have haw := L11awake_any hE
  have HE0 := Lib.hid (fun W (hb : Below w.heap.size w W) => hE.below hb)
  have HC := Lib.hid hC
  have HAW := Lib.hid haw
  clear h hC hml haw hE
  by_cases ha : 80 < asks.length
  · have ha' : (80 : Int) < (asks.length : Int) := by omega
    go_enter Tryz.func5, Tryz.ntmps5
    go_wp2_with (first | (go_at_call 8; refine HAW.out.mono ?_; rintro _ w1 ⟨rfl, hb1⟩))
    go_ret
    exact ⟨rfl, hb1⟩
  have ha' : ¬ (80 : Int) < (asks.length : Int) := by omega
  go_enter Tryz.func5, Tryz.ntmps5
  go_upto_region 3 with (first | (go_at_call 8; refine HAW.out.mono ?_; rintro _ w1 ⟨rfl, hb1⟩))
  obtain ⟨hp0, hp4⟩ := five_in parts
  go_upto_region 6 with fail
  generalize wrap64 ((IntKind.u64.wrap parts).tmod 5) = pp at *
  go_wp2
  have HPP := Lib.hid (And.intro hp0 hp4)
  go_loopg [5, 6] asks.length (fun gk va i wr => ∃ (k : Nat) (L : List Fk), k ≤ asks.length ∧ gk = asks.length - k ∧ i = .int .i64 k ∧ Below w.heap.size w wr ∧ FksRd wr va L ∧ Inv L k)
  case atStart => exact ⟨0, [], Nat.zero_le _, rfl, rfl, hb1.alloc hb1.size _, FksRd.empty _ _, Inv.nil _⟩
  case round =>
    obtain ⟨k, L, hk, rfl, rfl, hbel, hL, iL⟩ := hrel
    have HR := Lib.hid (And.intro hbel (And.intro hL iL))
    have hszr := hbel.size
    clear hbel hL iL hb1
    by_cases hlt : k < asks.length
    · obtain ⟨b, off, rfl, hb, hq⟩ := HC.out k hlt
      have hq := hq.below hb HR.out.1
      have i1' : (k : Int) < (asks.length : Int) := by omega
      have i2 : (0 : Int) ≤ (k : Int) := by omega
      generalize asks[k] = q at *
      obtain ⟨z0, z1, z2, z3, z4, z5, z6, z7, z8, z9, z10⟩ := hq
      obtain ⟨wq, hwq⟩ : ∃ wq, wq = wr.alloc q.box := ⟨_, rfl⟩
      have hbq : Below wr.heap.size wr wq := by rw [hwq]; exact below_alloc _ _
      have hNq : wq.heap[wr.heap.size]? = some q.box := by rw [hwq]; exact heap_alloc_new wr _
      have hszq : wq.heap.size = wr.heap.size + 1 := by rw [hwq]; simp
      have hkq : ∀ W, Below wq.heap.size wq W → RqAt W wr.heap.size 0 q ∧ FksRd W u5 L ∧ Below w.heap.size w W ∧ Env W := by
        intro W hb
        have h2 := hbq.trans (hb.mono (by omega))
        have h3 := HR.out.1.trans (h2.mono hszr)
        exact ⟨box_rq ((hb.block _ (by omega)).trans hNq), HR.out.2.1.below h2, h3, HE0.out _ h3⟩
      have HQ := Lib.hid hkq
      have hqb : wr.heap.size < wq.heap.size := by omega
      clear hbq hNq hkq hb
      go_upto_region 11 with fail
      rw [← hwq]
      clear hwq z0 z1 z2 z3 z4 z5 z6 z7 z8 z9 z10
      generalize wr.heap.size = qb at *
      obtain ⟨⟨x0, x1, x2, x3, x4, x5, x6, x7, x8, x9, x10⟩, -⟩ := HQ.out _ (Below.refl _ _)
      have l1 : (bs q.group).size = q.group.length := bs_size _
      have l2 : (bs q.member).size = q.member.length := bs_size _
      by_cases hqg : 200 < q.group.length
      · have hqg' : (200 : Int) < (q.group.length : Int) := by omega
        go_wp2
        go_ret
        exact ⟨rfl, (HQ.out _ (Below.refl _ _)).2.2.1⟩
      by_cases hqm : 200 < q.member.length
      · have hqm' : (200 : Int) < (q.member.length : Int) := by omega
        have hqg' : ¬ (200 : Int) < (q.group.length : Int) := by omega
        go_wp2
        go_ret
        exact ⟨rfl, (HQ.out _ (Below.refl _ _)).2.2.1⟩
      have hqg' : ¬ (200 : Int) < (q.group.length : Int) := by omega
      have hqm' : ¬ (200 : Int) < (q.member.length : Int) := by omega
      have hco := commit_law HR.out.2.2 (by omega) pp q
      have hin := next_inv HR.out.2.2 (by omega) pp q
      have hans : answerP (nextF L pp q) (decideF L pp q).1 (decideF L pp q).2 false q = ansF L pp q := by rw [answerP, dec_read HR.out.2.2 (by omega)]; rfl
      obtain ⟨dl1, dl2⟩ := dec_len HR.out.2.2 (by omega) pp q
      have hgr : Calls Tryz.prog 16 #[u5, .string (bs q.group)] wq (GroupTo wq (grp L q.group) (hasFk L q.group)) := group_any (HQ.out _ (Below.refl _ _)).2.1 q.group
      have hd1 : ∀ W, Below wq.heap.size wq W → Calls Tryz.prog 14 #[u5, .int .i64 pp, q.v] W (RecTo W (decideF L pp q).1 (decideF L pp q).2) := fun W hb =>
        decide_inv (HQ.out _ hb).2.1 HR.out.2.2 q (by omega) (by omega) pp (HQ.out _ hb).2.2.2
      have ha1 : ∀ W, Below wq.heap.size wq W → Calls Tryz.prog 10 #[u5, .agg #[.int .i64 0, .string (bs (decideF L pp q).1), .string (bs (decideF L pp q).2), .bool false]] W (ApplyTo W (nextF L pp q)) := fun W hb =>
        apply_inv (HQ.out W hb).2.1 HR.out.2.2 (by omega) q pp 0 (HQ.out W hb).2.2.2
      have hW : 0 ≤ (grp L q.group).gen ∧ (grp L q.group).gen ≤ 1000 := by
        obtain ⟨-, -, h1, h2, -⟩ := HR.out.2.2.the q.group
        rw [(grp_the HR.out.2.2.ok.up q.group).1]; omega
      have HIN := Lib.hid hin
      have HCO := Lib.hid hco
      have HAN := Lib.hid hans
      have HG := Lib.hid hgr
      have HD := Lib.hid hd1
      have HA := Lib.hid ha1
      clear hco hin hans hgr hd1 ha1
      generalize (decideF L pp q).1 = dk at *
      generalize (decideF L pp q).2 = dv at *
      generalize ansF L pp q = R at *
      generalize nextF L pp q = N at *
      generalize grp L q.group = W1 at *
      generalize hasFk L q.group = is at *
      go_upto_region 14 with (first | (go_at_call 16; refine HG.out.mono ?_; rintro _ w2 ⟨ma, mc, pa, pc, rfl, hm2, hp2, hb2⟩))
      obtain ⟨ws, hws⟩ : ∃ ws, ws = w2.alloc (.cells #[.string (bs W1.name), .int .i64 W1.gen, .int .i64 W1.parts, .slice ma W1.members.length mc, .slice pa W1.points.length pc] 44) := ⟨_, rfl⟩
      obtain ⟨sb, hsb⟩ : ∃ sb, sb = w2.heap.size := ⟨_, rfl⟩
      have hS : GrpAt ws sb W1 ma mc pa pc := by rw [hws, hsb]; exact GrpAt.new hm2 hp2
      have hbs : Below wq.heap.size wq ws := by rw [hws]; exact hb2.alloc hb2.size _
      rw [← hws, ← hsb]
      clear hws hsb hm2 hp2 hb2
      have HS := Lib.hid (And.intro hS hbs)
      have hsw := hbs.size
      clear x0 x1 x2 x3 x4 x5 x6 x7 x8 x9 x10
      obtain ⟨⟨x0, x1, x2, x3, x4, x5, x6, x7, x8, x9, x10⟩, -⟩ := HQ.out _ hbs
      clear hS hbs
      go_upto_region 15 with (first | (go_at_call 14; refine (HD.out _ HS.out.2).mono ?_; rintro _ w3 ⟨rfl, hb3⟩))
      obtain ⟨wx, hwx⟩ : ∃ wx, wx = w3.alloc (Rc.box ⟨0, dk, dv, false⟩) := ⟨_, rfl⟩
      obtain ⟨xb, hxb⟩ : ∃ xb, xb = w3.heap.size := ⟨_, rfl⟩
      have hX : wx.heap[xb]? = some (Rc.box ⟨0, dk, dv, false⟩) := by rw [hwx, hxb]; exact heap_alloc_new _ _
      have hbx : Below ws.heap.size ws wx := by rw [hwx]; exact hb3.alloc hb3.size _
      rw [← hwx, ← hxb]
      clear hwx hxb hb3
      have p0 := cells_of hX 0 _ rfl
      have p1 := cells_of hX 1 _ rfl
      have p2 := cells_of hX 2 _ rfl
      have p3 := cells_of hX 3 _ rfl
      have HX := Lib.hid (And.intro hX (And.intro (HS.out.1.below hbx) (HS.out.2.trans (hbx.mono hsw))))
      clear hX hbx
      go_upto_region 16 with (first | (go_at_call 10; refine (HA.out _ HX.out.2.2).mono ?_; rintro _ w4 ⟨v4, rfl, ho4, hb4⟩))
      have H4 := Lib.hid (And.intro ho4.rd (And.intro (box_below HX.out.1 hb4) (And.intro (HX.out.2.1.below hb4) (HX.out.2.2.trans (hb4.mono HX.out.2.2.size)))))
      clear ho4 hb4 p0 p1 p2 p3 x0 x1 x2 x3 x4 x5 x6 x7 x8 x9 x10
      obtain ⟨⟨x0, x1, x2, x3, x4, x5, x6, x7, x8, x9, x10⟩, -⟩ := HQ.out _ H4.out.2.2.2
      have hgr2 : Calls Tryz.prog 16 #[v4, .string (bs q.group)] w4 (GroupTo w4 (grp N q.group) (hasFk N q.group)) := group_any H4.out.1 q.group
      have HG2 := Lib.hid hgr2
      clear hgr2
      generalize grp N q.group = V at *
      generalize hasFk N q.group = his at *
      go_upto_region 17 with (first | (go_at_call 16; refine HG2.out.mono ?_; rintro _ w5 ⟨na, nc, oa, oc, rfl, hm5, hp5, hb5⟩))
      obtain ⟨wn, hwn⟩ : ∃ wn, wn = w5.alloc (.cells #[.string (bs V.name), .int .i64 V.gen, .int .i64 V.parts, .slice na V.members.length nc, .slice oa V.points.length oc] 44) := ⟨_, rfl⟩
      obtain ⟨nb, hnb⟩ : ∃ nb, nb = w5.heap.size := ⟨_, rfl⟩
      have hNB : GrpAt wn nb V na nc oa oc := by rw [hwn, hnb]; exact GrpAt.new hm5 hp5
      have hbn : Below w4.heap.size w4 wn := by rw [hwn]; exact hb5.alloc hb5.size _
      rw [← hwn, ← hnb]
      clear hwn hnb hm5 hp5 hb5
      have hKN : ∀ W, Below wn.heap.size wn W → RqAt W qb 0 q ∧ GrpAt W sb W1 ma mc pa pc ∧ GrpAt W nb V na nc oa oc ∧ W.heap[xb]? = some (Rc.box ⟨0, dk, dv, false⟩) ∧ FksRd W v4 N ∧ Below w.heap.size w W ∧ Env W := by
        intro W hb
        have h2 := hbn.trans (hb.mono hbn.size)
        have h3 := H4.out.2.2.2.trans (h2.mono H4.out.2.2.2.size)
        obtain ⟨e1, -, e3, e4⟩ := HQ.out _ h3
        exact ⟨e1, H4.out.2.2.1.below h2, hNB.below hb, box_below H4.out.2.1 h2, H4.out.1.below h2, e3, e4⟩
      have HK := Lib.hid hKN
      have hbase : Below wn.heap.size wn wn := Below.refl _ _
      clear hNB hbn hKN H4 HX HS HG HG2 HD HA hsw x0 x1 x2 x3 x4 x5 x6 x7 x8 x9 x10 HQ
      obtain ⟨⟨x0, x1, x2, x3, x4, x5, x6, x7, x8, x9, x10⟩, hs, hn, hx, -⟩ := HK.out _ hbase
      obtain ⟨s0, s1, s2, s3, s4⟩ := hs.cells
      obtain ⟨n0, n1, n2, n3, n4⟩ := hn.cells
      have r0 := cells_of hx 0 _ rfl
      have r1 := cells_of hx 1 _ rfl
      have r2 := cells_of hx 2 _ rfl
      have r3 := cells_of hx 3 _ rfl
      clear hs hn hx
      by_cases k6 : q.kind = 6
      case neg =>
        have k6b : (q.kind == 6) = false := by simpa using k6
        have hoth := HCO.out.other k6
        have HOT := Lib.hid hoth
        clear hoth
        go_wp2
        clear x0 x1 x2 x3 x4 x5 x6 x7 x8 x9 x10 s0 s1 s2 s3 s4 n0 n1 n2 n3 n4 r0 r1 r2 r3 k6b
        go_loopg [14] 4 (fun gk i wr => ∃ p : Nat, p ≤ 4 ∧ gk = 4 - p ∧ i = .int .i64 p ∧ Below wn.heap.size wn wr)
        case atStart => exact ⟨0, by omega, rfl, rfl, hbase⟩
        case round =>
          obtain ⟨p, hp, rfl, rfl, hbp⟩ := hrel
          by_cases hp4' : p < 4
          · have j1 : (p : Int) < 4 := by omega
            have hsp := hbp.size
            have hlim : ∀ W, Below wr.heap.size wr W → GrpAt W nb V na nc oa oc ∧ GrpAt W sb W1 ma mc pa pc := fun W hb => by
              have := HK.out W (hbp.trans (hb.mono hsp)); exact ⟨this.2.2.1, this.2.1⟩
            have hcN : ∀ W, Below wr.heap.size wr W → Calls Tryz.prog 19 #[.agg #[.string (bs V.name), .int .i64 V.gen, .int .i64 V.parts, .slice na V.members.length nc, .slice oa V.points.length oc], .int .i64 p] W fun e w' => e = .returned (.int .i64 (offP W1.points p)) ∧ Below wr.heap.size wr w' := fun W hb => by
              have := off_at (hlim W hb).1 (p : Int)
              rw [HOT.out] at this
              exact this.mono fun e w' ⟨h1, h2⟩ => ⟨h1, hb.trans (h2.mono hb.size)⟩
            have hcS : ∀ W, Below wr.heap.size wr W → Calls Tryz.prog 19 #[.agg #[.string (bs W1.name), .int .i64 W1.gen, .int .i64 W1.parts, .slice ma W1.members.length mc, .slice pa W1.points.length pc], .int .i64 p] W fun e w' => e = .returned (.int .i64 (offP W1.points p)) ∧ Below wr.heap.size wr w' := fun W hb =>
              (off_at (hlim W hb).2 (p : Int)).mono fun e w' ⟨h1, h2⟩ => ⟨h1, hb.trans (h2.mono hb.size)⟩
            have HLM := Lib.hid (fun W hb => grp2_limbs (hlim W hb).1 (hlim W hb).2)
            have HCN := Lib.hid hcN
            have HCS := Lib.hid hcS
            clear hlim hcN hcS
            generalize offP W1.points (p : Int) = o at *
            go_upto_region 21 with fail
            go_region_held3 (fun W' => W'.cell? ⟨nb, 0, none⟩ = some (.string (bs V.name)) ∧ W'.cell? ⟨nb, 1, none⟩ = some (.int .i64 V.gen) ∧ W'.cell? ⟨nb, 2, none⟩ = some (.int .i64 V.parts) ∧ W'.cell? ⟨nb, 3, none⟩ = some (.slice na V.members.length nc) ∧ W'.cell? ⟨nb, 4, none⟩ = some (.slice oa V.points.length oc) ∧ W'.cell? ⟨sb, 0, none⟩ = some (.string (bs W1.name)) ∧ W'.cell? ⟨sb, 1, none⟩ = some (.int .i64 W1.gen) ∧ W'.cell? ⟨sb, 2, none⟩ = some (.int .i64 W1.parts) ∧ W'.cell? ⟨sb, 3, none⟩ = some (.slice ma W1.members.length mc) ∧ W'.cell? ⟨sb, 4, none⟩ = some (.slice pa W1.points.length pc))
              (first | (have hg := hbB; with_reducible exact HLM.out _ hg) | (have hg := hbA; with_reducible exact HLM.out _ hg) | (with_reducible exact HLM.out _ (Below.refl _ _).drew) | (with_reducible exact HLM.out _ (Below.refl _ _)))
              (first
                | (go_at_call 19; have hg := hbA; first | (with_reducible refine (HCN.out _ hg).mono ?_; rintro e wB ⟨rfl, hbB⟩) | (with_reducible refine (HCS.out _ hg).mono ?_; rintro e wB ⟨rfl, hbB⟩))
                | (go_at_call 19; first | (with_reducible refine (HCN.out _ (Below.refl _ _).drew).mono ?_; rintro e wA ⟨rfl, hbA⟩) | (with_reducible refine (HCS.out _ (Below.refl _ _).drew).mono ?_; rintro e wA ⟨rfl, hbA⟩)))
            all_goals
              go_wp2
              go_roundg (4 - (p + 1))
              case measure => omega
              case rel => exact ⟨p + 1, by omega, rfl, by go_num, hbp.trans (hbB.mono hsp)⟩
          · have j1 : ¬ (p : Int) < 4 := by omega
            have HBP := Lib.hid hbp
            clear hbp
            go_wp2
            go_roundg (asks.length - (k + 1))
            case measure => omega
            case rel =>
              obtain ⟨-, -, -, -, h5, h6, -⟩ := HK.out _ HBP.out
              exact ⟨k + 1, N, by omega, rfl, by go_num, h6, h5, HIN.out⟩
      case pos =>
        have HK6 := Lib.hid k6
        go_upto_region 24 with fail
        clear k6
        have han := answer_inv (HK.out _ hbase).2.2.2.2.1 HIN.out dl1 dl2 HAN.out (HK.out _ hbase).2.2.2.2.2.2
        have HA := Lib.hid han
        clear han
        go_upto_region 25 with (first | (go_at_call 15; refine HA.out.mono ?_; rintro _ w6 ⟨ra, rc, rfl, -, hb6⟩))
        obtain ⟨w7, hw7⟩ : ∃ w7, w7 = w6.alloc (R.box ra rc) := ⟨_, rfl⟩
        obtain ⟨rb, hrb⟩ : ∃ rb, rb = w6.heap.size := ⟨_, rfl⟩
        have hRB : w7.heap[rb]? = some (R.box ra rc) := by rw [hw7, hrb]; exact heap_alloc_new _ _
        have hb7 : Below wn.heap.size wn w7 := by rw [hw7]; exact hb6.alloc hb6.size _
        rw [← hw7, ← hrb]
        clear hw7 hrb hb6 x0 x1 x2 x3 x4 x5 x6 x7 x8 x9 x10 s0 s1 s2 s3 s4 n0 n1 n2 n3 n4 r0 r1 r2 r3
        have hk7 : ∀ W, Below w7.heap.size w7 W → Below wn.heap.size wn W ∧ W.heap[rb]? = some (R.box ra rc) := fun W hb => ⟨hb7.trans (hb.mono hb7.size), box_below hRB hb⟩
        have H7 := Lib.hid hk7
        have hb77 : Below w7.heap.size w7 w7 := Below.refl _ _
        clear hk7 hRB
        obtain ⟨⟨x0, x1, x2, x3, x4, x5, x6, x7, x8, x9, x10⟩, hs, -⟩ := HK.out _ hb7
        obtain ⟨s0, s1, s2, s3, s4⟩ := hs.cells
        have how := SOwner_any hs.2.1 W1.parts q.part
        obtain ⟨o, ho⟩ : ∃ o, ownerP W1.parts W1.members q.part = o := ⟨_, rfl⟩
        rw [ho] at how
        obtain ⟨ow, has⟩ := o
        have HOW := Lib.hid how
        have HO := Lib.hid ho
        clear how ho hs
        go_upto_region 26 with (first | (go_at_call 18; refine HOW.out.mono ?_; rintro _ w8 ⟨rfl, hb8⟩))
        have hbn8 := (H7.out _ hb8).1
        clear x0 x1 x2 x3 x4 x5 x6 x7 x8 x9 x10 s0 s1 s2 s3 s4 hb7 HOW
        obtain ⟨⟨x0, x1, x2, x3, x4, x5, x6, x7, x8, x9, x10⟩, hs, -⟩ := HK.out _ hbn8
        obtain ⟨s0, s1, s2, s3, s4⟩ := hs.cells
        obtain ⟨q2, q3, q5⟩ := resp_cells (H7.out _ hb8).2
        obtain ⟨may, hmay⟩ : ∃ may : Bool, mayCommit W1 is q = may := ⟨_, rfl⟩
        have hmay2 : (is && (decide (q.gen = W1.gen) && (has && decide (ow = q.member)))) = may := by rw [← hmay, mayCommit, HO.out]
        have hno : may = false → R.code = 30 := fun e => HCO.out.no HK6.out (by rw [hmay, e])
        have hyes : may = true → decide (R.code = 0) = offB q.off := fun e => HCO.out.yes HK6.out (by rw [hmay, e])
        clear hs hmay
        have bq := beq_dec ow q.member
        go_cut [18] from 102 to 190 (fun v wc => v = .bool may ∧ wc = w8)
        case first =>
          cases is with
          | false =>
            have e : may = false := by rw [← hmay2]; rfl
            subst e
            clear hno hyes
            go_wp2_with fail
            go_meet
            exact ⟨rfl, rfl⟩
          | true =>
            by_cases eg : q.gen = W1.gen
            · have eg2 : (q.gen == W1.gen) = true := by simpa using eg
              rw [decide_eq_true eg] at hmay2
              cases has with
              | false =>
                have e : may = false := by rw [← hmay2]; rfl
                subst e
                clear hno hyes eg
                go_wp2_with fail
                go_meet
                exact ⟨rfl, rfl⟩
              | true =>
                rw [Bool.true_and, Bool.true_and, Bool.true_and] at hmay2
                rw [hmay2] at bq
                clear hno hyes eg hmay2
                go_wp2_with fail
                go_meet
                exact ⟨rfl, rfl⟩
            · have eg2 : (q.gen == W1.gen) = false := by simpa using eg
              have e : may = false := by rw [← hmay2, decide_eq_false eg]; rfl
              subst e
              clear hno hyes eg
              go_wp2_with fail
              go_meet
              exact ⟨rfl, rfl⟩
        case rest =>
        obtain ⟨rfl, rfl⟩ := hcut
        clear hmay2 bq
        go_upto_region 27 with fail
        go_cut [142] from 119 to 190 (fun v wd => v = .bool false ∧ wd = wc)
        case first =>
          cases may with
          | false =>
            have hc := hno rfl
            clear hno hyes
            generalize R.code = cd at *
            subst hc
            go_wp2_with fail
            go_meet
            exact ⟨rfl, rfl⟩
          | true =>
            have hc := hyes rfl
            clear hno hyes
            by_cases c0 : R.code = 0
            · rw [decide_eq_true c0] at hc
              have hc2 : 0 ≤ q.off ∧ q.off ≤ 1099511627776 := by simpa [offB] using hc.symm
              obtain ⟨o1, o2⟩ := hc2
              have c0b : (R.code == 0) = true := by simpa using c0
              clear hc c0
              go_wp2_with fail
              go_meet
              exact ⟨rfl, rfl⟩
            · rw [decide_eq_false c0] at hc
              have c0b : (R.code == 0) = false := by simpa using c0
              by_cases o1 : 0 ≤ q.off
              · have o2 : ¬ q.off ≤ 1099511627776 := fun o2 => by simp [offB, o1, o2] at hc
                clear hc c0
                go_wp2_with fail
                go_meet
                exact ⟨rfl, rfl⟩
              · clear hc c0
                go_wp2_with fail
                go_meet
                exact ⟨rfl, rfl⟩
        case rest =>
        obtain ⟨rfl, rfl⟩ := hcut
        clear hno hyes x0 x1 x2 x3 x4 x5 x6 x7 x8 x9 x10 s0 s1 s2 s3 s4 q2 q3 q5
        go_wp2
        go_loopg [19] 4 (fun gk i wr => ∃ p : Nat, p ≤ 4 ∧ gk = 4 - p ∧ i = .int .i64 p ∧ Below w7.heap.size w7 wr)
        case atStart => exact ⟨0, by omega, rfl, rfl, hb8⟩
        case round =>
          obtain ⟨p, hp, rfl, rfl, hbp⟩ := hrel
          obtain ⟨hbpn, hrbp⟩ := H7.out _ hbp
          by_cases hp4' : p < 4
          · have j1 : (p : Int) < 4 := by omega
            obtain ⟨-, hs, -⟩ := HK.out _ hbpn
            obtain ⟨s0, s1, s2, s3, s4⟩ := hs.cells
            have HOF1 := Lib.hid (off_at hs (p : Int))
            clear hs hrbp
            go_upto_region 33 with (first | (go_at_call 19; refine HOF1.out.mono ?_; rintro _ wz ⟨rfl, hbz0⟩))
            have hbz := hbpn.trans (hbz0.mono hbpn.size)
            have hbw7 := hbp.trans (hbz0.mono hbp.size)
            clear s0 s1 s2 s3 s4 hbp hbpn hbz0 HOF1
            obtain ⟨⟨x0, x1, x2, x3, x4, x5, x6, x7, x8, x9, x10⟩, -⟩ := HK.out _ hbz
            obtain ⟨q2, q3, q5⟩ := resp_cells (H7.out _ hbw7).2
            obtain ⟨cnd, hcnd⟩ : ∃ cnd : Bool, (decide (R.code = 0) && decide ((p : Int) = q.part)) = cnd := ⟨_, rfl⟩
            go_cut [158] from 150 to 189 (fun v wd => v = .bool cnd ∧ wd = wz)
            case first =>
              by_cases c0 : R.code = 0
              · have c0b : (R.code == 0) = true := by simpa using c0
                by_cases c1 : (p : Int) = q.part
                · have c1b : ((p : Int) == q.part) = true := by simpa using c1
                  rw [decide_eq_true c0, decide_eq_true c1] at hcnd
                  subst hcnd
                  clear c0 c1
                  go_wp2_with fail
                  go_meet
                  exact ⟨rfl, rfl⟩
                · have c1b : ((p : Int) == q.part) = false := by simpa using c1
                  rw [decide_eq_true c0, decide_eq_false c1] at hcnd
                  subst hcnd
                  clear c0 c1
                  go_wp2_with fail
                  go_meet
                  exact ⟨rfl, rfl⟩
              · have c0b : (R.code == 0) = false := by simpa using c0
                rw [decide_eq_false c0] at hcnd
                subst hcnd
                clear c0
                go_wp2_with fail
                go_meet
                exact ⟨rfl, rfl⟩
            case rest =>
            obtain ⟨rfl, hwd⟩ := hcut
            subst hwd
            cases cnd with
            | true =>
              have hvp : offP V.points (p : Int) = q.off := by have := HCO.out.off HK6.out (p : Int); rw [hcnd] at this; simpa using this
              obtain ⟨C, hC⟩ : ∃ C, lookP N ⟨0, 0, 7, p, 0, 0, 0, 0, q.group, [], none, 0, 0⟩ = C := ⟨_, rfl⟩
              obtain ⟨lk1, lk2⟩ := HCO.out.look (p : Int) 0 0 0 0 0 0 none 0 0
              rw [hC, hvp] at lk1 lk2
              have hlo := look_any (HK.out _ hbz).2.2.2.2.1 HIN.out.ok.up (by have := HIN.out.ok.len; omega) ⟨0, 0, 7, p, 0, 0, 0, 0, q.group, [], none, 0, 0⟩
              rw [hC] at hlo
              have HLO := Lib.hid hlo
              have HVP := Lib.hid hvp
              have HLK := Lib.hid (And.intro lk1 lk2)
              clear hlo hvp lk1 lk2 hC
              go_upto_region 36 with (first | (go_at_call 20; refine HLO.out.mono ?_; rintro _ w9 ⟨ca, cc, rfl, -, hb9⟩))
              obtain ⟨wc9, hwc9⟩ : ∃ wc9, wc9 = w9.alloc (C.box ca cc) := ⟨_, rfl⟩
              obtain ⟨cb, hcb⟩ : ∃ cb, cb = w9.heap.size := ⟨_, rfl⟩
              have hCB : wc9.heap[cb]? = some (C.box ca cc) := by rw [hwc9, hcb]; exact heap_alloc_new _ _
              have hb9' : Below wc.heap.size wc wc9 := by rw [hwc9]; exact hb9.alloc hb9.size _
              have hbf : Below wn.heap.size wn wc9 := hbz.trans (hb9'.mono hbz.size)
              have hb79 : Below w7.heap.size w7 wc9 := hbw7.trans (hb9'.mono hbw7.size)
              rw [← hwc9, ← hcb]
              clear hwc9 hcb hb9
              obtain ⟨-, -, hn, -⟩ := HK.out _ hbf
              obtain ⟨n0, n1, n2, n3, n4⟩ := hn.cells
              have hof := off_at hn (p : Int)
              rw [HVP.out] at hof
              have HOF := Lib.hid hof
              have hcx : ∀ W, Below wc9.heap.size wc9 W → W.cell? ⟨cb, 2, none⟩ = some (.int .i64 C.code) ∧ W.cell? ⟨cb, 3, none⟩ = some (.int .i64 C.off) := fun W hb => by
                have := resp_cells (box_below hCB hb); exact ⟨this.1, this.2.1⟩
              have HCX := Lib.hid hcx
              have HB7 := Lib.hid hb79
              clear hn hof hcx hCB hb9' hbf hb79 x0 x1 x2 x3 x4 x5 x6 x7 x8 x9 x10 q2 q3 q5
              by_cases hw0 : 0 ≤ q.off
              · have hc0 : C.code = 0 := by have := HLK.out.1; rw [decide_eq_true hw0] at this; exact of_decide_eq_true this
                have hco : C.off = q.off := HLK.out.2 hw0
                go_wp2_with (first | (go_at_call 19; refine HOF.out.mono ?_; rintro _ wA ⟨rfl, hbA⟩; obtain ⟨q2, q3⟩ := HCX.out _ hbA; have HBA := Lib.hid (HB7.out.trans (hbA.mono HB7.out.size)); clear hbA))
                go_roundg (4 - (p + 1))
                case measure => omega
                case rel => exact ⟨p + 1, by omega, rfl, by go_num, HBA.out⟩
              · have hc0 : ¬ C.code = 0 := by have := HLK.out.1; rw [decide_eq_false hw0] at this; exact of_decide_eq_false this
                have hc1 : (C.code == 0) = false := by simpa using hc0
                go_wp2_with (first | (go_at_call 19; refine HOF.out.mono ?_; rintro _ wA ⟨rfl, hbA⟩; obtain ⟨q2, q3⟩ := HCX.out _ hbA; have HBA := Lib.hid (HB7.out.trans (hbA.mono HB7.out.size)); clear hbA))
                go_roundg (4 - (p + 1))
                case measure => omega
                case rel => exact ⟨p + 1, by omega, rfl, by go_num, HBA.out⟩
            | false =>
              have hvp : offP V.points (p : Int) = offP W1.points (p : Int) := by have := HCO.out.off HK6.out (p : Int); rw [hcnd] at this; simpa using this
              obtain ⟨C, hC⟩ : ∃ C, lookP N ⟨0, 0, 7, p, 0, 0, 0, 0, q.group, [], none, 0, 0⟩ = C := ⟨_, rfl⟩
              obtain ⟨lk1, lk2⟩ := HCO.out.look (p : Int) 0 0 0 0 0 0 none 0 0
              rw [hC, hvp] at lk1 lk2
              have hlo := look_any (HK.out _ hbz).2.2.2.2.1 HIN.out.ok.up (by have := HIN.out.ok.len; omega) ⟨0, 0, 7, p, 0, 0, 0, 0, q.group, [], none, 0, 0⟩
              rw [hC] at hlo
              have HLO := Lib.hid hlo
              have HVP := Lib.hid hvp
              have HLK := Lib.hid (And.intro lk1 lk2)
              clear hlo hvp lk1 lk2 hC
              go_upto_region 36 with (first | (go_at_call 20; refine HLO.out.mono ?_; rintro _ w9 ⟨ca, cc, rfl, -, hb9⟩))
              obtain ⟨wc9, hwc9⟩ : ∃ wc9, wc9 = w9.alloc (C.box ca cc) := ⟨_, rfl⟩
              obtain ⟨cb, hcb⟩ : ∃ cb, cb = w9.heap.size := ⟨_, rfl⟩
              have hCB : wc9.heap[cb]? = some (C.box ca cc) := by rw [hwc9, hcb]; exact heap_alloc_new _ _
              have hb9' : Below wc.heap.size wc wc9 := by rw [hwc9]; exact hb9.alloc hb9.size _
              have hbf : Below wn.heap.size wn wc9 := hbz.trans (hb9'.mono hbz.size)
              have hb79 : Below w7.heap.size w7 wc9 := hbw7.trans (hb9'.mono hbw7.size)
              rw [← hwc9, ← hcb]
              clear hwc9 hcb hb9
              obtain ⟨-, -, hn, -⟩ := HK.out _ hbf
              obtain ⟨n0, n1, n2, n3, n4⟩ := hn.cells
              have hof := off_at hn (p : Int)
              rw [HVP.out] at hof
              have HOF := Lib.hid hof
              have hcx : ∀ W, Below wc9.heap.size wc9 W → W.cell? ⟨cb, 2, none⟩ = some (.int .i64 C.code) ∧ W.cell? ⟨cb, 3, none⟩ = some (.int .i64 C.off) := fun W hb => by
                have := resp_cells (box_below hCB hb); exact ⟨this.1, this.2.1⟩
              have HCX := Lib.hid hcx
              have HB7 := Lib.hid hb79
              clear hn hof hcx hCB hb9' hbf hb79 x0 x1 x2 x3 x4 x5 x6 x7 x8 x9 x10 q2 q3 q5
              by_cases hw0 : 0 ≤ offP W1.points (p : Int)
              · have hc0 : C.code = 0 := by have := HLK.out.1; rw [decide_eq_true hw0] at this; exact of_decide_eq_true this
                have hco : C.off = offP W1.points (p : Int) := HLK.out.2 hw0
                go_wp2_with (first | (go_at_call 19; refine HOF.out.mono ?_; rintro _ wA ⟨rfl, hbA⟩; obtain ⟨q2, q3⟩ := HCX.out _ hbA; have HBA := Lib.hid (HB7.out.trans (hbA.mono HB7.out.size)); clear hbA))
                go_roundg (4 - (p + 1))
                case measure => omega
                case rel => exact ⟨p + 1, by omega, rfl, by go_num, HBA.out⟩
              · have hc0 : ¬ C.code = 0 := by have := HLK.out.1; rw [decide_eq_false hw0] at this; exact of_decide_eq_false this
                have hc1 : (C.code == 0) = false := by simpa using hc0
                go_wp2_with (first | (go_at_call 19; refine HOF.out.mono ?_; rintro _ wA ⟨rfl, hbA⟩; obtain ⟨q2, q3⟩ := HCX.out _ hbA; have HBA := Lib.hid (HB7.out.trans (hbA.mono HB7.out.size)); clear hbA))
                go_roundg (4 - (p + 1))
                case measure => omega
                case rel => exact ⟨p + 1, by omega, rfl, by go_num, HBA.out⟩
          · have j1 : ¬ (p : Int) < 4 := by omega
            have HBP := Lib.hid hbpn
            clear hbp hbpn hrbp
            go_wp2
            go_roundg (asks.length - (k + 1))
            case measure => omega
            case rel =>
              obtain ⟨-, -, -, -, h5, h6, -⟩ := HK.out _ HBP.out
              exact ⟨k + 1, N, by omega, rfl, by go_num, h6, h5, HIN.out⟩
    · have i1' : ¬ (k : Int) < (asks.length : Int) := by omega
      go_wp2
      go_ret
      exact ⟨rfl, HR.out.1⟩
end Go.Proofs.YtdchjepahgecgaaGreatDoor
