/- The walk of FlockSame. -/
import Derived.Test.YtdchjepahgecgaaGreatDoorMq42
import Derived.Deep.AppendLies
namespace Go.Proofs.YtdchjepahgecgaaGreatDoor
open Go.RowKit

theorem und_Recs : Tryz.prog.underlying 22 = some (.slice 28) := by kernel_rfl
theorem info_Rec : (Tryz.prog.info? 28).map (fun i => (i.zero, i.size, i.bytes)) = some (some (.agg #[.int .i64 0, .string ⟨#[]⟩, .string ⟨#[]⟩, .bool false]), 4, 48) := by kernel_rfl

theorem rc_own {W : World} {x : Rc} {y : Rc} {b : Nat} (h : W.heap[b]? = some (.cells (rcEl x ++ rcEl y).toArray 28 (0, 0))) : ∀ j u, (rcEl x ++ rcEl y)[j]? = some u → W.cell? ((⟨b, 0, none⟩ : Addr).add j) = some u :=
  World.news_of_block (cs := (rcEl x ++ rcEl y).toArray) (t := 28) (fr := (0, 0)) h

set_option maxRecDepth 100000 in
set_option maxHeartbeats 8000000 in
theorem FSame_any {w : World} {v : Value} {asks : List Rq} (h : ReqsRd w v asks) (parts : Int) (junk : Rc) (hE : Env w) : Calls Tryz.prog 6 #[.int .i64 parts, v, junk.v] w fun e w' => e = .returned (.bool true) ∧ Below w.heap.size w w' := by
  obtain ⟨a, cap, rfl, -, hml, hC⟩ := h.cells
  have hml' : (asks.length : Int) ≤ 9223372036854775807 := by have : maxLen = 9223372036854775807 := rfl; omega
  obtain ⟨wa, hwa⟩ : ∃ wa, wa = w.alloc junk.box := ⟨_, rfl⟩
  have hb1 : Below w.heap.size w wa := by rw [hwa]; exact below_alloc _ _
  have hN : wa.heap[w.heap.size]? = some junk.box := by rw [hwa]; exact heap_alloc_new w _
  have hsz : wa.heap.size = w.heap.size + 1 := by rw [hwa]; simp
  have hk : ∀ W, Below wa.heap.size wa W → W.heap[w.heap.size]? = some junk.box ∧ Below w.heap.size w W ∧ Env W ∧ w.heap.size + 1 ≤ W.heap.size := by
    intro W hb
    have hbw := hb1.trans (hb.mono (by omega))
    exact ⟨(hb.block _ (by omega)).trans hN, hbw, hE.below hbw, by have := hb.size; omega⟩
  have haw := L11awake_any (hE.below hb1)
  have hgr : ∀ W : World, Calls Tryz.prog 9 #[.slice (some ⟨W.heap.size, 0, none⟩) 1 1] (W.alloc junk.box) fun e w' => e = .returned (.bool (greatB [junk])) ∧ w' = W.alloc junk.box := fun W =>
    great_any (l := [junk]) (Sl.of_owns (base := W.heap.size) (E := 28) ⟨rfl, .inr ⟨W.heap.size, 1, _, rfl, Nat.le_refl _, heap_alloc_new _ _, Nat.le_refl _, by unfold maxLen; omega, rfl, rfl⟩⟩).rd
  obtain ⟨gr, hgb⟩ : ∃ gr, greatB [junk] = gr := ⟨_, rfl⟩
  rw [hgb] at hgr
  have HE0 := Lib.hid (fun W (hb : Below w.heap.size w W) => hE.below hb)
  have HK := Lib.hid hk
  have HC := Lib.hid hC
  have HAW := Lib.hid haw
  have HGR := Lib.hid hgr
  have HGB := Lib.hid hgb
  clear h hC hml hb1 hN hsz hk haw hE hgr hgb
  by_cases ha : 80 < asks.length
  · have ha' : (80 : Int) < (asks.length : Int) := by omega
    go_enter Tryz.func6, Tryz.ntmps6
    go_upto_region 1 with fail
    rw [← hwa]
    clear hwa
    go_wp2_with (first | (go_at_call 8; refine HAW.out.mono ?_; rintro _ w1 ⟨rfl, hb1⟩))
    go_ret
    exact ⟨rfl, (HK.out _ hb1).2.1⟩
  have ha' : ¬ (80 : Int) < (asks.length : Int) := by omega
  go_enter Tryz.func6, Tryz.ntmps6
  go_upto_region 1 with fail
  rw [← hwa]
  clear hwa
  go_upto_region 3 with (first | (go_at_call 8; refine HAW.out.mono ?_; rintro _ w1 ⟨rfl, hb1⟩; have hbx := (HK.out _ hb1).1; have q0 := cells_of hbx 0 _ rfl; have q1 := cells_of hbx 1 _ rfl; have q2 := cells_of hbx 2 _ rfl; have q3 := cells_of hbx 3 _ rfl; have B1 := Lib.hid hb1; have hsz1 := hb1.size; clear hbx hb1))
  have HB1 := Lib.hid (And.intro (B1.out.alloc hsz1 junk.box) (show wa.heap.size ≤ (w1.alloc junk.box).heap.size by rw [World.size_alloc]; omega))
  cases gr with
  | true =>
    go_wp2_with (first | (go_at_call 9; refine (HGR.out _).mono ?_; rintro _ w2 ⟨rfl, rfl⟩))
    go_ret
    exact ⟨rfl, (HK.out _ HB1.out.1).2.1⟩
  | false =>
    go_upto_region 5 with (first | (go_at_call 9; refine (HGR.out _).mono ?_; rintro _ w2 ⟨rfl, rfl⟩))
    obtain ⟨hp0, hp4⟩ := five_in parts
    have hjk : junk.key.length ≤ 200 ∧ junk.val.length ≤ 500 := by have := HGB.out; simpa [greatB] using this
    have hks : (bs junk.key).size = junk.key.length := bs_size _
    obtain ⟨hjk1, hjk2⟩ := hjk
    go_upto_region 6 with fail
    generalize wrap64 ((IntKind.u64.wrap parts).tmod 5) = pp at *
    obtain ⟨W0, hW0⟩ : ∃ W0, W0 = w1.alloc junk.box := ⟨_, rfl⟩
    have hbx := (HK.out _ HB1.out.1).1
    rw [← hW0] at HB1 hbx
    rw [← hW0]
    have p0 := cells_of hbx 0 _ rfl
    have p1 := cells_of hbx 1 _ rfl
    have p2 := cells_of hbx 2 _ rfl
    have p3 := cells_of hbx 3 _ rfl
    have f1 := frozen_of (j := 1) hbx
    clear hW0 q0 q1 q2 q3 B1 hsz1
    go_upto_region 7 with fail
    have e1 : (⟨#[120]⟩ : ByteArray) ++ bs junk.key = bs (120 :: junk.key) := by
      have := bs_append [120] junk.key; exact this
    rw [e1]
    obtain ⟨W1, hW1⟩ : ∃ W1, W1 = W0.setCell ⟨w.heap.size, 1, none⟩ (.string (bs (120 :: junk.key))) := ⟨_, rfl⟩
    have hbx1 : W1.heap[w.heap.size]? = some (Rc.box ⟨junk.off, 120 :: junk.key, junk.val, junk.gone⟩) := by rw [hW1]; exact setCell_same (o := 1) hbx
    have hu1 : Below w.heap.size W0 W1 := by rw [hW1]; exact (upd_set1 W0 _ _ _).toBelow (by have := (HK.out _ HB1.out.1).2.2.2; omega) (fun k e => by omega)
    have hs1 : w.heap.size + 1 ≤ W1.heap.size := by rw [hW1, World.size_setCell]; exact (HK.out _ HB1.out.1).2.2.2
    have hw1 := (HK.out _ HB1.out.1).2.1.trans hu1
    have hE1 := (HK.out W0 HB1.out.1).2.2.1
    rw [← hW1]
    clear hW1 p0 p1 p2 p3 f1 hu1 hbx e1
    obtain ⟨i1, ki, kz⟩ : ∃ i1, Tryz.prog.info? 28 = some i1 ∧ (i1.zero, i1.size, i1.bytes) = (some (.agg #[.int .i64 0, .string ⟨#[]⟩, .string ⟨#[]⟩, .bool false]), 4, 48) := by
      have := info_Rec
      cases hi : Tryz.prog.info? 28 with
      | none => rw [hi] at this; cases this
      | some i => rw [hi] at this; exact ⟨i, rfl, by simpa using this⟩
    simp only [Prod.mk.injEq] at kz
    obtain ⟨kz0, kz1, kz2⟩ := kz
    have HX := Lib.hid (And.intro hbx1 (And.intro hw1 hs1))
    clear hbx1 hw1 hE1
    go_wp2
    go_loopg [7, 8, 9] asks.length (fun gk va vr i wr => ∃ (k : Nat) (L : List Fk) (rl : List Rc), k ≤ asks.length ∧ gk = asks.length - k ∧ i = .int .i64 k ∧ Below W1.heap.size W1 wr ∧ FksRd wr va L ∧ Inv L k ∧ wr.ownsRow W1.heap.size 28 4 vr rl.length (rl.flatMap rcEl) ∧ foldR rl = L ∧ (∀ x ∈ rl, x.key.length ≤ 100000 ∧ x.val.length ≤ 100000) ∧ rl.length = 2 * k)
    case atStart => exact ⟨0, [], [], Nat.zero_le _, rfl, rfl, ((Below.refl _ _).alloc (Nat.le_refl _) _).alloc (by simp) _, FksRd.empty _ _, Inv.nil _, ⟨rfl, .inr ⟨W1.heap.size + 1, 0, #[], rfl, by omega, heap_new1 _ _ _, Nat.le_refl _, by unfold maxLen; omega, rfl, rfl⟩⟩, rfl, by simp, rfl⟩
    case round =>
      obtain ⟨k, L, rl, hk, rfl, rfl, hbel, hL, iL, hown, hfold, hsm, hlen⟩ := hrel
      have HR := Lib.hid (And.intro hbel (And.intro hL (And.intro iL (And.intro hown (And.intro hfold (And.intro hsm hlen))))))
      have hszr := hbel.size
      have hlen2 : (rl.length : Int) = 2 * (k : Int) := by omega
      clear hbel hL iL hown hfold hsm hlen
      by_cases hlt : k < asks.length
      · obtain ⟨b, off, rfl, hb, hq⟩ := HC.out k hlt
        have hbwr : Below w.heap.size w wr := HX.out.2.1.trans (HR.out.1.mono (by omega))
        have hq := hq.below hb hbwr
        have i1' : (k : Int) < (asks.length : Int) := by omega
        have i2 : (0 : Int) ≤ (k : Int) := by omega
        generalize asks[k] = q at *
        obtain ⟨z0, z1, z2, z3, z4, z5, z6, z7, z8, z9, z10⟩ := hq
        obtain ⟨wq, hwq⟩ : ∃ wq, wq = wr.alloc q.box := ⟨_, rfl⟩
        have hbq : Below wr.heap.size wr wq := by rw [hwq]; exact below_alloc _ _
        have hNq : wq.heap[wr.heap.size]? = some q.box := by rw [hwq]; exact heap_alloc_new wr _
        have hszq : wq.heap.size = wr.heap.size + 1 := by rw [hwq]; simp
        have hkq : ∀ W, Below wq.heap.size wq W → RqAt W wr.heap.size 0 q ∧ FksRd W u7 L ∧ Below w.heap.size w W ∧ Env W ∧ Below wr.heap.size wr W := by
          intro W hb
          have h2 := hbq.trans (hb.mono (by omega))
          have h3 := hbwr.trans (h2.mono hbwr.size)
          exact ⟨box_rq ((hb.block _ (by omega)).trans hNq), HR.out.2.1.below h2, h3, HE0.out _ h3, h2⟩
        have HQ := Lib.hid hkq
        have HBW := Lib.hid hbwr
        clear hbq hNq hkq hbwr
        go_upto_region 13 with fail
        rw [← hwq]
        clear hwq z0 z1 z2 z3 z4 z5 z6 z7 z8 z9 z10
        obtain ⟨⟨x0, x1, x2, x3, x4, x5, x6, x7, x8, x9, x10⟩, -⟩ := HQ.out _ (Below.refl _ _)
        have l1 : (bs q.group).size = q.group.length := bs_size _
        have l2 : (bs q.member).size = q.member.length := bs_size _
        by_cases hqg : 200 < q.group.length
        · have hqg' : (200 : Int) < (q.group.length : Int) := by omega
          go_wp2
          go_ret
          exact ⟨rfl, (HQ.out _ (Below.refl _ _)).2.2.1⟩
        by_cases hqm : 200 < q.member.length
        · have hqm' : (200 : Int) < (q.member.length : Int) := by omega
          have hqg' : ¬ (200 : Int) < (q.group.length : Int) := by omega
          go_wp2
          go_ret
          exact ⟨rfl, (HQ.out _ (Below.refl _ _)).2.2.1⟩
        have hqg' : ¬ (200 : Int) < (q.group.length : Int) := by omega
        have hqm' : ¬ (200 : Int) < (q.member.length : Int) := by omega
        have hd1 : Calls Tryz.prog 14 #[u7, .int .i64 pp, q.v] wq (RecTo wq (decideF L pp q).1 (decideF L pp q).2) :=
          decide_inv (HQ.out _ (Below.refl _ _)).2.1 HR.out.2.2.1 q (by omega) (by omega) pp (HQ.out _ (Below.refl _ _)).2.2.2.1
        obtain ⟨dl1, dl2⟩ := dec_len HR.out.2.2.1 (by omega) pp q
        have ha1 : ∀ W, Below wq.heap.size wq W → Calls Tryz.prog 10 #[u7, .agg #[.int .i64 0, .string (bs (decideF L pp q).1), .string (bs (decideF L pp q).2), .bool false]] W (ApplyTo W (nextF L pp q)) := fun W hb =>
          apply_inv (HQ.out W hb).2.1 HR.out.2.2.1 (by omega) q pp 0 (HQ.out W hb).2.2.2.1
        have hstep := step_eq HR.out.2.2.1 (by omega) pp q k
        have hin := next_inv HR.out.2.2.1 (by omega) pp q
        have HD := Lib.hid hd1
        have HA := Lib.hid ha1
        have HS := Lib.hid (And.intro hstep hin)
        have hk1 : (bs (decideF L pp q).1).size = (decideF L pp q).1.length := bs_size _
        have hk2 : (bs (decideF L pp q).2).size = (decideF L pp q).2.length := bs_size _
        clear hd1 ha1 hstep hin
        generalize (decideF L pp q).1 = dk at *
        generalize (decideF L pp q).2 = dv at *
        generalize nextF L pp q = M at *
        have d1 : ¬ (16 : Int) < (dk.length : Int) := by omega
        have d2 : ¬ (64 : Int) < (dv.length : Int) := by omega
        go_upto_region 16 with (first | (go_at_call 14; refine HD.out.mono ?_; rintro _ w2 ⟨rfl, hb2⟩))
        obtain ⟨wx, hwx⟩ : ∃ wx, wx = w2.alloc (Rc.box ⟨0, dk, dv, false⟩) := ⟨_, rfl⟩
        obtain ⟨xb, hxb⟩ : ∃ xb, xb = w2.heap.size := ⟨_, rfl⟩
        have hs2 := hb2.size
        have hbx : Below wq.heap.size wq wx := by rw [hwx]; exact hb2.alloc hs2 _
        have hX : wx.heap[xb]? = some (Rc.box ⟨0, dk, dv, false⟩) := by rw [hwx, hxb]; exact heap_alloc_new _ _
        have hxs : wx.heap.size = xb + 1 := by rw [hwx, hxb]; simp
        have hxq : wq.heap.size ≤ xb := by rw [hxb]; exact hs2
        rw [← hwx, ← hxb]
        have p0 := cells_of hX 0 _ rfl
        have p1 := cells_of hX 1 _ rfl
        have p2 := cells_of hX 2 _ rfl
        have p3 := cells_of hX 3 _ rfl
        have HX2 := Lib.hid (And.intro hbx (And.intro hX hxs))
        clear hwx hxb hbx hX hxs hb2 hs2 x0 x1 x2 x3 x4 x5 x6 x7 x8 x9 x10
        go_upto_region 18 with fail
        go_upto_region 19 with (first | (go_at_call 10; refine (HA.out _ HX2.out.1).mono ?_; rintro _ w3 ⟨v3, rfl, ho3, hb3⟩))
        have hX3 := (hb3.block xb (by have := HX2.out.2.2; omega)).trans HX2.out.2.1
        have c0 := cells_of hX3 0 _ rfl
        have f0 := frozen_of (j := 0) hX3
        obtain ⟨w4, hw4⟩ : ∃ w4, w4 = w3.setCell ⟨xb, 0, none⟩ (.int .i64 k) := ⟨_, rfl⟩
        have hX4 : w4.heap[xb]? = some (Rc.box ⟨k, dk, dv, false⟩) := by rw [hw4]; exact setCell_same (o := 0) hX3
        have hu4 : Upd (fun b => b = xb) w3 w4 := by rw [hw4]; exact upd_set1 _ _ _ _
        have hb4 : Below wq.heap.size wq w4 := (HX2.out.1.trans (hb3.mono (by have := HX2.out.2.2; omega))).trans (hu4.toBelow (by have := hb3.size; have := HX2.out.2.2; omega) (fun b e => by omega))
        have hb4r := (HQ.out _ hb4).2.2.2.2
        have ho4 : OwnFk w4 wx.heap.size v3 M := ho3.low hu4 (fun b e => by have := HX2.out.2.2; omega)
        have hJ4 : w4.heap[w.heap.size]? = some (Rc.box ⟨junk.off, 120 :: junk.key, junk.val, junk.gone⟩) := (hb4r.block _ (by omega)).trans ((HR.out.1.block _ (by omega)).trans HX.out.1)
        have hown4 : w4.ownsRow W1.heap.size 28 4 u8 rl.length (rl.flatMap rcEl) := owns_upd HR.out.2.2.2.1 (Upd.of_below (F := fun _ => False) hb4r) (fun _ _ h => h)
        have hsz4 : wr.heap.size + 1 ≤ w4.heap.size := by have := hb4.size; omega
        go_upto_region 20 with fail
        rw [← hw4]
        have c0 := cells_of hX4 0 _ rfl
        have c1 := cells_of hX4 1 _ rfl
        have c2 := cells_of hX4 2 _ rfl
        have c3 := cells_of hX4 3 _ rfl
        have j0 := cells_of hJ4 0 _ rfl
        have j1 := cells_of hJ4 1 _ rfl
        have j2 := cells_of hJ4 2 _ rfl
        have j3 := cells_of hJ4 3 _ rfl
        have H4 := Lib.hid (And.intro hown4 (And.intro ho4 hb4r))
        clear hw4 f0 p0 p1 p2 p3 hX3 ho3 hX4 hJ4 hown4 ho4 hb4r hu4 hb4 hb3
        go_wp2_with (first | (at_builtin; refine wpList_append_lies _ rfl _ _ 22 rfl W1.heap.size 28 i1 _ 4 48 und_Recs ki kz0 kz1 kz2 rfl (by decide) u8 rl.length (rl.flatMap rcEl) rfl (H4.out.1.alloc _) ⟨w4.heap.size, 0, none⟩ 2 2 (rcEl ⟨k, dk, dv, false⟩ ++ rcEl ⟨junk.off, 120 :: junk.key, junk.val, junk.gone⟩) rfl rfl (rc_own (heap_alloc_new w4 _)) (by simp [rcEl, Value.oneCell']) (by decide) ?_ ?_ ?_ _ rfl ?_; (unfold maxLen; omega); (omega); (simp only [World.size_alloc]; omega); intro g7 cap7 w8 hown8 hgrow8 hat8 hlt8; have H8 := Lib.hid (And.intro hown8 hgrow8); clear hown8 hgrow8 hat8 hlt8))
        go_roundg (asks.length - (k + 1))
        case measure => omega
        case rel =>
          have hu8 : Upd (fun b => some b = u8.ownBlock) w4 w8 := (upd_alloc _ w4 _).trans (upd_grown H8.out.2)
          refine ⟨k + 1, M, rl ++ [⟨k, dk, dv, false⟩, ⟨junk.off, 120 :: junk.key, junk.val, junk.gone⟩], by omega, rfl, by go_num, ?_, ?_, HS.out.2, ?_, ?_, ?_, by simp; omega⟩
          · exact (HR.out.1.trans (H4.out.2.2.mono hszr)).trans (hu8.toBelow (by omega) (fun b e => (owns_lt H4.out.1 b e.symm).1))
          · exact (H4.out.2.1.low hu8 (fun b e => by have := (owns_lt HR.out.2.2.2.1 b e.symm).2; have := HX2.out.2.2; omega)).rd
          · have := H8.out.1
            simpa [List.flatMap_append, List.length_append] using this
          · have e : foldR (rl ++ [⟨k, dk, dv, false⟩, ⟨junk.off, 120 :: junk.key, junk.val, junk.gone⟩]) = applyR (applyR (foldR rl) ⟨k, dk, dv, false⟩) ⟨junk.off, 120 :: junk.key, junk.val, junk.gone⟩ := by
              unfold foldR; rw [List.foldl_append]; rfl
            rw [e, HR.out.2.2.2.2.1, HS.out.1, junk_same]
          · intro x hx
            rcases List.mem_append.1 hx with hx | hx
            · exact HR.out.2.2.2.2.2.1 x hx
            · simp only [List.mem_cons, List.not_mem_nil, or_false] at hx
              rcases hx with rfl | rfl
              · exact ⟨by simp only; omega, by simp only; omega⟩
              · exact ⟨by simp only [List.length_cons]; omega, by simp only; omega⟩
      · have i1' : ¬ (k : Int) < (asks.length : Int) := by omega
        have hbwr : Below w.heap.size w wr := HX.out.2.1.trans (HR.out.1.mono (by omega))
        have hrc : RcsRd wr u8 rl := (Sl.of_owns HR.out.2.2.2.1).rd
        have hfd := FFold_any hrc HR.out.2.2.2.2.2.1 (HE0.out _ hbwr)
        rw [HR.out.2.2.2.2.1] at hfd
        have HF := Lib.hid hfd
        have HL := Lib.hid HR.out.2.1
        have HBW := Lib.hid hbwr
        clear hfd hrc hbwr
        go_wp2_with (first
          | (go_at_call 13; refine HF.out.mono ?_; rintro _ w2 ⟨v2, rfl, ho2, hb2⟩; have H2 := Lib.hid (And.intro ho2.rd hb2); clear ho2 hb2)
          | (go_at_call 12; refine (R11Same_yes H2.out.1 (HL.out.below H2.out.2)).mono ?_; rintro _ w3 ⟨rfl, hb3⟩))
        go_ret
        exact ⟨rfl, HBW.out.trans ((below_trans H2.out.2 hb3).mono HBW.out.size)⟩
end Go.Proofs.YtdchjepahgecgaaGreatDoor
