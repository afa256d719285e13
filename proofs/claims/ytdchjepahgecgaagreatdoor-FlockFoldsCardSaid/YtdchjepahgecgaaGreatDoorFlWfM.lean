/- The walk of FlockFolds. -/
import Derived.Test.YtdchjepahgecgaaGreatDoorMq42
import Derived.Test.YtdchjepahgecgaaGreatDoorRrAM
namespace Go.Proofs.YtdchjepahgecgaaGreatDoor
open Go.RowKit

theorem great_small {l : List Rc} (h : greatB l = false) : ∀ x ∈ l, x.key.length ≤ 100000 ∧ x.val.length ≤ 100000 := by
  intro x hx
  simp only [greatB, Bool.or_eq_false_iff, List.any_eq_false] at h
  have h1 := h.2 x hx
  simp at h1
  omega

set_option maxRecDepth 100000 in
set_option maxHeartbeats 4000000 in
theorem FFolds_any {w : World} {v : Value} {l : List Rc} (h : RcsRd w v l) (hE : Env w) : Calls Tryz.prog 3 #[v] w fun e w' => e = .returned (.bool true) ∧ Below w.heap.size w w' := by
  obtain ⟨a, cap, rfl, -, hml, hC⟩ := h.cells
  have hml' : (l.length : Int) ≤ 9223372036854775807 := by have : maxLen = 9223372036854775807 := rfl; omega
  have haw := L11awake_any hE
  have hgr : ∀ W, Below w.heap.size w W → Calls Tryz.prog 9 #[.slice a l.length cap] W fun e w' => e = .returned (.bool (greatB l)) ∧ w' = W := fun W hb => great_any (h.below hb)
  have hfold : ∀ W, Below w.heap.size w W → (∀ x ∈ l, x.key.length ≤ 100000 ∧ x.val.length ≤ 100000) → Calls Tryz.prog 13 #[.slice a l.length cap] W (ApplyTo W (foldR l)) := fun W hb hs => FFold_any (h.below hb) hs (hE.below hb)
  obtain ⟨gr, hgb⟩ : ∃ gr, greatB l = gr := ⟨_, rfl⟩
  rw [hgb] at hgr
  have HAW := Lib.hid haw
  have HGR := Lib.hid hgr
  have HC := Lib.hid hC
  have HF := Lib.hid hfold
  have HE := Lib.hid (fun W (hb : Below w.heap.size w W) => hE.below hb)
  have HGB := Lib.hid hgb
  clear h hC hml haw hgr hfold hgb hE
  cases gr with
  | true =>
    go_enter Tryz.func3, Tryz.ntmps3
    go_wp2_with (first | (go_at_call 8; refine HAW.out.mono ?_; rintro _ w1 ⟨rfl, hb1⟩) | (go_at_call 9; refine (HGR.out _ hb1).mono ?_; rintro _ w2 ⟨rfl, rfl⟩))
    go_ret
    exact ⟨rfl, hb1⟩
  | false =>
    have HS := Lib.hid (great_small HGB.out)
    go_enter Tryz.func3, Tryz.ntmps3
    go_upto_region 7 with (first | (go_at_call 8; refine HAW.out.mono ?_; rintro _ w1 ⟨rfl, hb1⟩; have HB1 := Lib.hid hb1; have hz1 := hb1.size; clear hb1) | (go_at_call 9; refine (HGR.out _ HB1.out).mono ?_; rintro _ w2 ⟨rfl, rfl⟩))
    go_wp2
    go_loopg [3, 4, 5] l.length (fun gk va vb i wr => ∃ (k : Nat), k ≤ l.length ∧ gk = l.length - k ∧ i = .int .i64 k ∧ Below w.heap.size w wr ∧ FksRd wr va (foldR (l.take k)) ∧ FksRd wr vb (foldR (l.take k)))
    case atStart => exact ⟨0, Nat.zero_le _, rfl, rfl, (HB1.out.alloc hz1 _).alloc (by simp; omega) _, FksRd.empty _ _, FksRd.empty _ _⟩
    case round =>
      obtain ⟨k, hk, rfl, rfl, hbel, hA, hB⟩ := hrel
      have hsz := hbel.size
      by_cases hlt : k < l.length
      · obtain ⟨b, off, rfl, hb, c0, c1, c2, c3⟩ := HC.out k hlt
        have hcc : ∀ W, Below w.heap.size w W → W.cell? ⟨b, off + k * 4, none⟩ = some (.int .i64 l[k].off) ∧ W.cell? ⟨b, off + k * 4 + 1, none⟩ = some (.string (bs l[k].key)) ∧ W.cell? ⟨b, off + k * 4 + 2, none⟩ = some (.string (bs l[k].val)) ∧ W.cell? ⟨b, off + k * 4 + 3, none⟩ = some (.bool l[k].gone) :=
          fun W hW => ⟨below_some hW c0 hb, below_some hW c1 hb, below_some hW c2 hb, below_some hW c3 hb⟩
        have i1 : (k : Int) < (l.length : Int) := by omega
        have i2 : (0 : Int) ≤ (k : Int) := by omega
        have htk : foldR (l.take (k + 1)) = applyR (foldR (l.take k)) l[k] := by
          unfold foldR
          rw [List.take_succ_eq_append_getElem hlt, List.foldl_append]; rfl
        obtain ⟨hk1, hv1⟩ := HS.out _ (List.getElem_mem hlt)
        have hok := foldR_ok (l.take k)
        have hap : ∀ W, FksRd W u3 (foldR (l.take k)) → Below w.heap.size w W → Calls Tryz.prog 10 #[u3, .agg #[.int .i64 l[k].off, .string (bs l[k].key), .string (bs l[k].val), .bool l[k].gone]] W (ApplyTo W (foldR (l.take (k + 1)))) := fun W h1 h2 => by
          rw [htk]; exact FApply_ok h1 hok l[k] hk1 hv1 (HE.out W h2)
        have hrp : ∀ W, FksRd W u4 (foldR (l.take k)) → Calls Tryz.prog 11 #[u4, .agg #[.int .i64 l[k].off, .string (bs l[k].key), .string (bs l[k].val), .bool l[k].gone]] W (RApplyTo W (foldR (l.take (k + 1)))) := fun W h1 => by
          rw [htk]; exact R11Apply_any h1 hok l[k] hk1 hv1
        have HAP := Lib.hid hap
        have HRP := Lib.hid hrp
        have HCC := Lib.hid hcc
        have HR := Lib.hid (And.intro hbel (And.intro hA hB))
        obtain ⟨c0, c1, c2, c3⟩ := hcc wr hbel
        clear hap hrp hcc htk hok hk1 hv1 hbel hA hB
        generalize l[k] = y at *
        obtain ⟨M, hM⟩ : ∃ M, foldR (l.take (k + 1)) = M := ⟨_, rfl⟩
        rw [hM] at HAP HRP
        have HM := Lib.hid hM
        clear hM
        go_wp2_with (first
          | (go_at_call 10; refine (HAP.out _ HR.out.2.1 HR.out.1).mono ?_; rintro _ w3 ⟨v3, rfl, ho3, hb3⟩; have hbw3 := HR.out.1.trans (hb3.mono hsz); obtain ⟨c30, c31, c32, c33⟩ := HCC.out w3 hbw3; have H3 := Lib.hid (And.intro ho3.rd (And.intro hb3 hbw3)); have hz3 := hb3.size; clear ho3 hb3 hbw3)
          | (go_at_call 11; refine (HRP.out _ (HR.out.2.2.below H3.out.2.1)).mono ?_; rintro _ w4 ⟨v4, rfl, ho4, hb4⟩; have H4 := Lib.hid (And.intro ho4 hb4); have hz4 := hb4.size; clear ho4 hb4)
          | (go_at_call 12; refine (R11Same_yes (H3.out.1.below H4.out.2) H4.out.1).mono ?_; rintro _ w5 ⟨rfl, hb5⟩; have H5 := Lib.hid hb5; clear hb5))
        go_roundg (l.length - (k + 1))
        case measure => omega
        case rel => exact ⟨k + 1, by omega, rfl, by go_num, (H3.out.2.2.trans (H4.out.2.mono (by omega))).trans (H5.out.mono (by omega)), by rw [HM.out]; exact (H3.out.1.below H4.out.2).below H5.out, by rw [HM.out]; exact H4.out.1.below H5.out⟩
      · have hkl : k = l.length := by omega
        subst hkl
        have i1 : ¬ (l.length : Int) < (l.length : Int) := by omega
        rw [List.take_length] at hA hB
        have HR := Lib.hid (And.intro hbel (And.intro hA hB))
        clear hbel hA hB
        go_wp2_with (first
          | (go_at_call 13; refine (HF.out _ HR.out.1 HS.out).mono ?_; rintro _ w3 ⟨v3, rfl, ho3, hb3⟩; have H3 := Lib.hid (And.intro ho3.rd hb3); have hz3 := hb3.size; clear ho3 hb3)
          | (go_at_call 12; refine (R11Same_yes H3.out.1 (HR.out.2.2.below H3.out.2)).mono ?_; rintro _ w5 ⟨rfl, hb5⟩; have H5 := Lib.hid hb5; clear hb5))
        go_ret
        exact ⟨rfl, (HR.out.1.trans (H3.out.2.mono hsz)).trans (H5.out.mono (by omega))⟩
end Go.Proofs.YtdchjepahgecgaaGreatDoor
