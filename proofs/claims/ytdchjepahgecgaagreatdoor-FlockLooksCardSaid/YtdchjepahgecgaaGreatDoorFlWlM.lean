/- The walk of FlockLooks. -/
import Derived.Test.YtdchjepahgecgaaGreatDoorMq42
import Derived.Deep.RegionHeld3
import Derived.Deep.DeepCutAuto
namespace Go.Proofs.YtdchjepahgecgaaGreatDoor
open Go.RowKit

set_option maxRecDepth 100000 in
set_option maxHeartbeats 8000000 in
theorem FLooks_any {w : World} {v : Value} {asks : List Rq} (h : ReqsRd w v asks) (parts : Int) (who : Rq) (hE : Env w) : Calls Tryz.prog 7 #[.int .i64 parts, v, who.v] w fun e w' => e = .returned (.bool true) ∧ Below w.heap.size w w' := by
  obtain ⟨a, cap, rfl, -, hml, hC⟩ := h.cells
  have hml' : (asks.length : Int) ≤ 9223372036854775807 := by have : maxLen = 9223372036854775807 := rfl; omega
  obtain ⟨wa, hwa⟩ : ∃ wa, wa = w.alloc who.box := ⟨_, rfl⟩
  have hb1 : Below w.heap.size w wa := by rw [hwa]; exact below_alloc _ _
  have hN : wa.heap[w.heap.size]? = some who.box := by rw [hwa]; exact heap_alloc_new w _
  have hsz : wa.heap.size = w.heap.size + 1 := by rw [hwa]; simp
  have hk : ∀ W, Below wa.heap.size wa W → RqAt W w.heap.size 0 who ∧ Below w.heap.size w W ∧ Env W := by
    intro W hb
    have hbw := hb1.trans (hb.mono (by omega))
    exact ⟨box_rq ((hb.block _ (by omega)).trans hN), hbw, hE.below hbw⟩
  have haw := L11awake_any (hE.below hb1)
  have HK := Lib.hid hk
  have HC := Lib.hid hC
  have HAW := Lib.hid haw
  clear h hC hml hb1 hN hsz hk haw hE
  have g1 : (bs who.group).size = who.group.length := bs_size _
  have g2 : (bs who.member).size = who.member.length := bs_size _
  by_cases ha : 80 < asks.length
  · have ha' : (80 : Int) < (asks.length : Int) := by omega
    go_enter Tryz.func7, Tryz.ntmps7
    go_upto_region 1 with fail
    rw [← hwa]
    clear hwa
    go_wp2_with (first | (go_at_call 8; refine HAW.out.mono ?_; rintro _ w1 ⟨rfl, hb1⟩))
    go_ret
    exact ⟨rfl, (HK.out _ hb1).2.1⟩
  have ha' : ¬ (80 : Int) < (asks.length : Int) := by omega
  by_cases hg : 200 < who.group.length
  · have hg' : (200 : Int) < (who.group.length : Int) := by omega
    go_enter Tryz.func7, Tryz.ntmps7
    go_upto_region 1 with fail
    rw [← hwa]
    clear hwa
    go_upto_region 3 with (first | (go_at_call 8; refine HAW.out.mono ?_; rintro _ w1 ⟨rfl, hb1⟩; obtain ⟨q0, q1, q2, q3, q4, q5, q6, q7, q8, q9, q10⟩ := (HK.out _ hb1).1))
    go_wp2
    go_ret
    exact ⟨rfl, (HK.out _ hb1).2.1⟩
  have hg' : ¬ (200 : Int) < (who.group.length : Int) := by omega
  by_cases hm : 200 < who.member.length
  · have hm' : (200 : Int) < (who.member.length : Int) := by omega
    go_enter Tryz.func7, Tryz.ntmps7
    go_upto_region 1 with fail
    rw [← hwa]
    clear hwa
    go_upto_region 3 with (first | (go_at_call 8; refine HAW.out.mono ?_; rintro _ w1 ⟨rfl, hb1⟩; obtain ⟨q0, q1, q2, q3, q4, q5, q6, q7, q8, q9, q10⟩ := (HK.out _ hb1).1))
    go_wp2
    go_ret
    exact ⟨rfl, (HK.out _ hb1).2.1⟩
  have hm' : ¬ (200 : Int) < (who.member.length : Int) := by omega
  go_enter Tryz.func7, Tryz.ntmps7
  go_upto_region 1 with fail
  rw [← hwa]
  clear hwa
  go_upto_region 3 with (first | (go_at_call 8; refine HAW.out.mono ?_; rintro _ w1 ⟨rfl, hb1⟩; obtain ⟨q0, q1, q2, q3, q4, q5, q6, q7, q8, q9, q10⟩ := (HK.out _ hb1).1))
  go_upto_region 7 with fail
  have B1 := Lib.hid hb1
  have hsz1 := hb1.size
  clear hb1 q0 q1 q2 q3 q4 q5 q6 q7 q8 q9 q10 g1 g2 HAW
  go_wp2
  go_loopg [7, 8, 9] asks.length (fun gk va vo i wr => ∃ (k : Nat) (LA LO : List Fk), k ≤ asks.length ∧ gk = asks.length - k ∧ i = .int .i64 k ∧ Below wa.heap.size wa wr ∧ FksRd wr va LA ∧ FksRd wr vo LO ∧ Inv LA k ∧ Inv LO k ∧ twoN LA ∧ twoN LO ∧ hasFk LA who.group = hasFk LO who.group ∧ theF LA who.group = theF LO who.group)
  case atStart => exact ⟨0, [], [], Nat.zero_le _, rfl, rfl, (B1.out.alloc hsz1 _).alloc (by simp; omega) _, FksRd.empty _ _, FksRd.empty _ _, Inv.nil _, Inv.nil _, by simp [twoN], by simp [twoN], rfl, rfl⟩
  case round =>
    obtain ⟨k, LA, LO, hk, rfl, rfl, hbel, hA, hO, iA, iO, tA, tO, ehas, ethe⟩ := hrel
    have HR := Lib.hid (And.intro hbel (And.intro hA (And.intro hO (And.intro iA (And.intro iO (And.intro tA (And.intro tO (And.intro ehas ethe))))))))
    have hszr := hbel.size
    clear hbel hA hO iA iO tA tO ehas ethe
    by_cases hlt : k < asks.length
    · obtain ⟨b, off, rfl, hb, hq⟩ := HC.out k hlt
      have hq := hq.below hb (HK.out _ HR.out.1).2.1
      have i1 : (k : Int) < (asks.length : Int) := by omega
      have i2 : (0 : Int) ≤ (k : Int) := by omega
      have hk80 : k ≤ 80 := by omega
      generalize asks[k] = q at *
      obtain ⟨z0, z1, z2, z3, z4, z5, z6, z7, z8, z9, z10⟩ := hq
      obtain ⟨wq, hwq⟩ : ∃ wq, wq = wr.alloc q.box := ⟨_, rfl⟩
      have hbq : Below wr.heap.size wr wq := by rw [hwq]; exact below_alloc _ _
      have hNq : wq.heap[wr.heap.size]? = some q.box := by rw [hwq]; exact heap_alloc_new wr _
      have hszq : wq.heap.size = wr.heap.size + 1 := by rw [hwq]; simp
      have hkq : ∀ W, Below wq.heap.size wq W → RqAt W wr.heap.size 0 q ∧ RqAt W w.heap.size 0 who ∧ FksRd W u7 LA ∧ FksRd W u8 LO ∧ Below wa.heap.size wa W ∧ Env W := by
        intro W hb
        have h2 := hbq.trans (hb.mono (by omega))
        have h3 := HR.out.1.trans (h2.mono hszr)
        exact ⟨box_rq ((hb.block _ (by omega)).trans hNq), (HK.out _ h3).1, HR.out.2.1.below h2, HR.out.2.2.1.below h2, h3, (HK.out _ h3).2.2⟩
      have HQ := Lib.hid hkq
      clear hbq hNq hkq
      go_upto_region 11 with fail
      rw [← hwq]
      clear hwq z0 z1 z2 z3 z4 z5 z6 z7 z8 z9 z10
      obtain ⟨⟨x0, x1, x2, x3, x4, x5, x6, x7, x8, x9, x10⟩, ⟨y0, y1, y2, y3, y4, y5, y6, y7, y8, y9, y10⟩, -⟩ := HQ.out _ (Below.refl _ _)
      have l1 : (bs q.group).size = q.group.length := bs_size _
      have l2 : (bs q.member).size = q.member.length := bs_size _
      by_cases hqg : 200 < q.group.length
      · have hqg' : (200 : Int) < (q.group.length : Int) := by omega
        go_wp2
        go_ret
        exact ⟨rfl, (HK.out _ (HQ.out _ (Below.refl _ _)).2.2.2.2.1).2.1⟩
      by_cases hqm : 200 < q.member.length
      · have hqm' : (200 : Int) < (q.member.length : Int) := by omega
        have hqg' : ¬ (200 : Int) < (q.group.length : Int) := by omega
        go_wp2
        go_ret
        exact ⟨rfl, (HK.out _ (HQ.out _ (Below.refl _ _)).2.2.2.2.1).2.1⟩
      have hqg' : ¬ (200 : Int) < (q.group.length : Int) := by omega
      have hqm' : ¬ (200 : Int) < (q.member.length : Int) := by omega
      go_upto_region 13 with fail
      obtain ⟨gh, hgh⟩ : ∃ gh : Bool, gh = (decide (q.group = [103]) || decide (q.group = [104])) := ⟨_, rfl⟩
      have b1 := two_beq q.group 103
      have b2 := two_beq q.group 104
      have b1' := two_eq q.group 103
      have b2' := two_eq q.group 104
      have HGH := Lib.hid hgh
      go_cut [57] from 50 to 74 (fun v wc => v = .bool (!gh) ∧ wc = wq)
      case first =>
        by_cases e1 : q.group = [103]
        · rw [decide_eq_true e1] at b1
          have hgt : gh = true := by rw [hgh, e1]; rfl
          have b1' : (bs q.group).toList = [103] := by rw [bs_toList, e1]
          subst hgt
          clear e1 hgh b2 b2'
          go_wp2_with fail
          go_meet
          exact ⟨rfl, rfl⟩
        · rw [decide_eq_false e1] at b1
          have n1 : ¬ (bs q.group).toList = [103] := by rw [bs_toList]; exact e1
          by_cases e2 : q.group = [104]
          · rw [decide_eq_true e2] at b2
            have hgt : gh = true := by rw [hgh, e2]; rfl
            have b2' : (bs q.group).toList = [104] := by rw [bs_toList, e2]
            subst hgt
            clear e1 e2 hgh b1'
            go_wp2_with fail
            go_meet
            exact ⟨rfl, rfl⟩
          · rw [decide_eq_false e2] at b2
            have n2 : ¬ (bs q.group).toList = [104] := by rw [bs_toList]; exact e2
            have hgf : gh = false := by rw [hgh, decide_eq_false e1, decide_eq_false e2]; rfl
            subst hgf
            clear e1 e2 hgh b1' b2'
            go_wp2_with fail
            go_meet
            exact ⟨rfl, rfl⟩
      case rest =>
      obtain ⟨rfl, rfl⟩ := hcut
      clear b1 b2 b1' b2' hgh
      cases gh with
      | false =>
        go_wp2
        go_roundg (asks.length - (k + 1))
        case measure => omega
        case rel =>
          obtain ⟨-, -, r1, r2, r3, -⟩ := HQ.out _ (Below.refl _ _)
          exact ⟨k + 1, LA, LO, by omega, rfl, by go_num, r3, r1, r2, HR.out.2.2.2.1.mono (by omega), HR.out.2.2.2.2.1.mono (by omega), HR.out.2.2.2.2.2.1, HR.out.2.2.2.2.2.2.1, HR.out.2.2.2.2.2.2.2.1, HR.out.2.2.2.2.2.2.2.2⟩
      | true =>
        have hqn : q.group = [103] ∨ q.group = [104] := by have := HGH.out; simpa using this.symm
        have hd1 : ∀ W, Below wc.heap.size wc W → Calls Tryz.prog 14 #[u7, .int .i64 parts, q.v] W (RecTo W (decideF LA parts q).1 (decideF LA parts q).2) := fun W hb =>
          decide_inv (HQ.out W hb).2.2.1 HR.out.2.2.2.1 q (by omega) (by omega) parts (HQ.out W hb).2.2.2.2.2
        have ha1 : ∀ W, Below wc.heap.size wc W → Calls Tryz.prog 10 #[u7, .agg #[.int .i64 0, .string (bs (decideF LA parts q).1), .string (bs (decideF LA parts q).2), .bool false]] W (ApplyTo W (nextF LA parts q)) := fun W hb =>
          apply_inv (HQ.out W hb).2.2.1 HR.out.2.2.2.1 (by omega) q parts 0 (HQ.out W hb).2.2.2.2.2
        have hd2 : ∀ W, Below wc.heap.size wc W → Calls Tryz.prog 14 #[u8, .int .i64 parts, q.v] W (RecTo W (decideF LO parts q).1 (decideF LO parts q).2) := fun W hb =>
          decide_inv (HQ.out W hb).2.2.2.1 HR.out.2.2.2.2.1 q (by omega) (by omega) parts (HQ.out W hb).2.2.2.2.2
        have ha2 : ∀ W, Below wc.heap.size wc W → Calls Tryz.prog 10 #[u8, .agg #[.int .i64 0, .string (bs (decideF LO parts q).1), .string (bs (decideF LO parts q).2), .bool false]] W (ApplyTo W (nextF LO parts q)) := fun W hb =>
          apply_inv (HQ.out W hb).2.2.2.1 HR.out.2.2.2.2.1 (by omega) q parts 0 (HQ.out W hb).2.2.2.2.2
        have HD1 := Lib.hid hd1
        have HA1 := Lib.hid ha1
        have HD2 := Lib.hid hd2
        have HA2 := Lib.hid ha2
        have HQN := Lib.hid hqn
        have hI := next_inv HR.out.2.2.2.1 (by omega) parts q
        have hT := next_names HR.out.2.2.2.1.ok.up HR.out.2.2.2.2.2.1 (parts := parts) HR.out.2.2.2.1 (by omega) hqn
        have HI := Lib.hid (And.intro hI hT)
        clear hd1 ha1 hd2 ha2 hqn hI hT
        go_upto_region 15 with (first
          | (go_at_call 14; refine (HD1.out _ (Below.refl _ _)).mono ?_; rintro _ w2 ⟨rfl, hb2⟩; have B2 := Lib.hid hb2; clear hb2)
          | (go_at_call 10; refine (HA1.out _ B2.out).mono ?_; rintro _ w3 ⟨v3, rfl, ho3, hb3⟩; have hb3' := B2.out.trans (hb3.mono B2.out.size); have R3 := Lib.hid (And.intro ho3.rd hb3'); clear ho3 hb3 hb3'))
        obtain ⟨⟨x0, x1, x2, x3, x4, x5, x6, x7, x8, x9, x10⟩, ⟨y0, y1, y2, y3, y4, y5, y6, y7, y8, y9, y10⟩, -⟩ := HQ.out _ R3.out.2
        have hbq := beq_dec q.group who.group
        cases e : decide (q.group = who.group) with
        | false =>
          rw [e] at hbq
          have HNE := Lib.hid (of_decide_eq_false e)
          have hne : ¬ (bs q.group).toList = (bs who.group).toList := by rw [bs_toList, bs_toList]; exact HNE.out
          clear e
          go_wp2
          go_roundg (asks.length - (k + 1))
          case measure => omega
          case rel =>
            obtain ⟨-, -, -, r2, r3, -⟩ := HQ.out _ R3.out.2
            obtain ⟨n1, n2⟩ := next_off HR.out.2.2.2.1 (by omega) (parts := parts) (q := q) (s := who.group) (fun e => HNE.out e.symm)
            exact ⟨k + 1, nextF LA parts q, LO, by omega, rfl, by go_num, r3, R3.out.1, r2, HI.out.1, HR.out.2.2.2.2.1.mono (by omega), HI.out.2, HR.out.2.2.2.2.2.2.1, by rw [n1]; exact HR.out.2.2.2.2.2.2.2.1, by rw [n2]; exact HR.out.2.2.2.2.2.2.2.2⟩
        | true =>
          rw [e] at hbq
          have HEQ := Lib.hid (of_decide_eq_true e)
          have heq : (bs q.group).toList = (bs who.group).toList := by rw [bs_toList, bs_toList]; exact HEQ.out
          clear e
          go_wp2_with (first
            | (go_at_call 14; refine (HD2.out _ R3.out.2).mono ?_; rintro _ w4 ⟨rfl, hb4⟩; have B4 := Lib.hid (And.intro (R3.out.2.trans (hb4.mono R3.out.2.size)) hb4); clear hb4)
            | (go_at_call 10; refine (HA2.out _ B4.out.1).mono ?_; rintro _ w5 ⟨v5, rfl, ho5, hb5⟩; have hb5' := B4.out.1.trans (hb5.mono B4.out.1.size); have hb35 := B4.out.2.trans (hb5.mono B4.out.2.size); have R5 := Lib.hid (And.intro ho5.rd (And.intro hb5' hb35)); clear ho5 hb5 hb5' hb35))
          go_roundg (asks.length - (k + 1))
          case measure => omega
          case rel =>
            obtain ⟨-, -, -, r2, r3, -⟩ := HQ.out _ R5.out.2.1
            obtain ⟨n1, n2⟩ := next_eq HR.out.2.2.2.1 (by omega) HR.out.2.2.2.2.1 (by omega) (two_len HR.out.2.2.2.1.ok.up HR.out.2.2.2.2.2.1) (two_len HR.out.2.2.2.2.1.ok.up HR.out.2.2.2.2.2.2.1) (q := q) (by rw [HEQ.out]; exact HR.out.2.2.2.2.2.2.2.1) (by rw [HEQ.out]; exact HR.out.2.2.2.2.2.2.2.2) parts
            rw [HEQ.out] at n1 n2
            exact ⟨k + 1, nextF LA parts q, nextF LO parts q, by omega, rfl, by go_num, r3, R3.out.1.below R5.out.2.2, R5.out.1, HI.out.1, next_inv HR.out.2.2.2.2.1 (by omega) parts q, HI.out.2, next_names HR.out.2.2.2.2.1.ok.up HR.out.2.2.2.2.2.2.1 HR.out.2.2.2.2.1 (by omega) HQN.out, n1, n2⟩
    · have hkl : k = asks.length := by omega
      have i1 : ¬ (k : Int) < (asks.length : Int) := by omega
      obtain ⟨R, hRR⟩ : ∃ R, lookP LA who = R := ⟨_, rfl⟩
      have hlk : lookP LO who = R := by rw [← hRR]; exact (look_eq HR.out.2.2.2.2.2.2.2.2).symm
      have hla : ∀ W, Below wr.heap.size wr W → Calls Tryz.prog 20 #[u7, who.v] W fun e w' => ∃ pa pc, e = .returned (rsV R pa pc) ∧ IntsRd w' (.slice pa R.parts.length pc) R.parts ∧ Below W.heap.size W w' ∧ Below wr.heap.size wr w' := fun W hb => by
        have := look_any (HR.out.2.1.below hb) HR.out.2.2.2.1.ok.up (by have := HR.out.2.2.2.1.ok.len; omega) who
        rw [hRR] at this
        refine this.mono ?_
        rintro e w' ⟨pa, pc, rfl, ho, hb2⟩
        exact ⟨pa, pc, rfl, IntsRd.of_owns ho, hb2, hb.trans (hb2.mono hb.size)⟩
      have hlo : ∀ W, Below wr.heap.size wr W → Calls Tryz.prog 20 #[u8, who.v] W fun e w' => ∃ pa pc, e = .returned (rsV R pa pc) ∧ IntsRd w' (.slice pa R.parts.length pc) R.parts ∧ Below W.heap.size W w' ∧ Below wr.heap.size wr w' := fun W hb => by
        have := look_any (HR.out.2.2.1.below hb) HR.out.2.2.2.2.1.ok.up (by have := HR.out.2.2.2.2.1.ok.len; omega) who
        rw [hlk] at this
        refine this.mono ?_
        rintro e w' ⟨pa, pc, rfl, ho, hb2⟩
        exact ⟨pa, pc, rfl, IntsRd.of_owns ho, hb2, hb.trans (hb2.mono hb.size)⟩
      have hbr : ∀ W, Below wr.heap.size wr W → RqAt W w.heap.size 0 who ∧ Below w.heap.size w W := fun W hb => by
        have := HK.out W (HR.out.1.trans (hb.mono hszr)); exact ⟨this.1, this.2.1⟩
      have HLA := Lib.hid hla
      have HLO := Lib.hid hlo
      have HBR := Lib.hid hbr
      have hbase : Below wr.heap.size wr wr := Below.refl _ _
      clear hla hlo hbr hRR hlk hkl
      go_upto_region 17 with fail
      go_region_held3 (fun W' => W'.cell? ⟨w.heap.size, 0, none⟩ = some (.int .i64 who.client) ∧ W'.cell? ⟨w.heap.size, 1, none⟩ = some (.int .i64 who.n) ∧ W'.cell? ⟨w.heap.size, 2, none⟩ = some (.int .i64 who.kind) ∧ W'.cell? ⟨w.heap.size, 3, none⟩ = some (.int .i64 who.part) ∧ W'.cell? ⟨w.heap.size, 4, none⟩ = some (.int .i64 who.seq) ∧ W'.cell? ⟨w.heap.size, 5, none⟩ = some (.int .i64 who.off) ∧ W'.cell? ⟨w.heap.size, 6, none⟩ = some (.int .i64 who.max) ∧ W'.cell? ⟨w.heap.size, 7, none⟩ = some (.int .i64 who.gen) ∧ W'.cell? ⟨w.heap.size, 8, none⟩ = some (.string (bs who.group)) ∧ W'.cell? ⟨w.heap.size, 9, none⟩ = some (.string (bs who.member)) ∧ W'.cell? ⟨w.heap.size, 10, none⟩ = some (.slice who.ra who.rl who.rc))
        (first | (have hg := hR0; with_reducible exact rq_limbs (HBR.out _ hg).1) | (with_reducible exact rq_limbs (HBR.out _ (Below.refl _ _).drew).1) | (with_reducible exact rq_limbs (HBR.out _ hbase).1) | (have hg := hbAr; have hh := hbBr; first | with_reducible exact rq_limbs (HBR.out _ hg).1 | with_reducible exact rq_limbs (HBR.out _ hh).1) | (have hg := hbAr; with_reducible exact rq_limbs (HBR.out _ hg).1) | (have hg := hbBr; with_reducible exact rq_limbs (HBR.out _ hg).1))
        (first
          | (go_at_call 20; have hg := hbBr; refine (HLA.out _ hg).mono ?_; rintro e wA ⟨pa, pc, rfl, hiA, hbA, hbAr⟩)
          | (go_at_call 20; have hg := hbAr; refine (HLO.out _ hg).mono ?_; rintro e wB ⟨pb, pd, rfl, hiB, hbB, hbBr⟩)
          | (go_at_call 20; refine (HLA.out _ (Below.refl _ _).drew).mono ?_; rintro e wA ⟨pa, pc, rfl, hiA, hbA, hbAr⟩)
          | (go_at_call 20; refine (HLO.out _ (Below.refl _ _).drew).mono ?_; rintro e wB ⟨pb, pd, rfl, hiB, hbB, hbBr⟩)
          | (go_at_call 21; have hg := hiA.below hbB; refine (R11Resps_yes hg hiB).mono ?_; rintro e wR ⟨rfl, hbR⟩; have hR0 := hbBr.trans (hbR.mono hbBr.size); have hfin := (HBR.out _ hR0).2)
          | (go_at_call 21; have hg := hiB.below hbA; refine (R11Resps_yes hiA hg).mono ?_; rintro e wR ⟨rfl, hbR⟩; have hR0 := hbAr.trans (hbR.mono hbAr.size); have hfin := (HBR.out _ hR0).2))
      all_goals
        go_wp2
        go_ret
        exact ⟨rfl, hfin⟩
end Go.Proofs.YtdchjepahgecgaaGreatDoor
