/- The walk of LedgerWrites. -/
import Derived.Test.YtjkobbmdemooaaaGreatDoorLedRd
import Derived.Test.YtjkobbmdemooaaaGreatDoorLedRe
import Derived.Test.YtjkobbmdemooaaaGreatDoorLedA
namespace Go.Proofs.YtjkobbmdemooaaaGreatDoor
open Go.RowKit

def encStr (T : List (Int × List Slot)) : List UInt8 := if isTableB T = true then encT T else []
def encErr (T : List (Int × List Slot)) : Int := if isTableB T = true then 0 else 1

theorem LedEncode_any {w : World} {v : Value} {T : List (Int × List Slot)} (h : SeensRd w v T) (hE : Env w) :
    Calls Tryz.prog 27 #[v] w fun e w' => e = .returned (.tuple #[.string (bs (encStr T)), .int .i64 (encErr T)]) ∧ Below w.heap.size w w' := by
  unfold encStr encErr
  cases hT : isTableB T
  · exact LedEncode_no h hT
  · exact LedEncode_yes h hT hE

theorem R6Encode_any {w : World} {v : Value} {T : List (Int × List Slot)} (h : SeensRd w v T) :
    Calls Tryz.prog 28 #[v] w fun e w' => e = .returned (.tuple #[.string (bs (encStr T)), .int .i64 (encErr T)]) ∧ Below w.heap.size w w' := by
  unfold encStr encErr
  cases hT : isTableB T
  · exact R6Encode_no h hT
  · exact R6Encode_yes h hT

theorem dec_same (s : List UInt8) : decT ok6 ok65 s = decT tt tt s :=
  decT_eq (fun i hi => by simp [ok6]; omega) (fun i hi => by simp [ok65]; omega) (fun _ _ => rfl) (fun _ _ => rfl) s

set_option maxRecDepth 100000 in
set_option maxHeartbeats 2000000 in
theorem Writes_any {w : World} {v : Value} {T : List (Int × List Slot)} (h : SeensRd w v T) (s : List UInt8) (hs : s.length ≤ 1048576) (hE : Env w) :
    Calls Tryz.prog 5 #[v, .string (bs s)] w fun e w' => e = .returned (.bool true) ∧ Below w.heap.size w w' := by
  obtain ⟨a, cap, rfl, -, -⟩ := h.cells
  have HR := Lib.hid h
  have HE := Lib.hid hE
  cases hg : greatB T
  · have HG := Lib.hid hg
    have HDS := Lib.hid (dec_same s)
    clear h hE hg
    obtain ⟨o, ho⟩ : ∃ o, decT tt tt s = o := ⟨_, rfl⟩
    have HO := Lib.hid ho
    clear ho
    have htt : ((bs (encStr T)).toList == (bs (encStr T)).toList) = true := by simp
    go_enter Tryz.func5, Tryz.ntmps5
    go_wp2_with (first
      | (go_at_call 25; refine (awake_any _).mono ?_; rintro e w1 ⟨rfl, hb1⟩)
      | (go_at_call 26; refine (great_any (HR.out.below hb1)).mono ?_; rintro e w2 ⟨rfl, rfl⟩; rw [HG.out])
      | (go_at_call 27; refine (LedEncode_any (HR.out.below hb1) (HE.out.below hb1)).mono ?_; rintro e w3 ⟨rfl, hb3'⟩; have hb3 := below_trans hb1 hb3')
      | (go_at_call 28; refine (R6Encode_any (HR.out.below hb3)).mono ?_; rintro e w4 ⟨rfl, hb4'⟩; have hb4 := below_trans hb3 hb4')
      | (go_at_call 29; refine (LedDecode_any s hs (HE.out.below hb4)).mono ?_; rintro e w5 ⟨vx, rfl, hx, hb5'⟩; rw [HO.out] at hx ⊢; have hb5 := below_trans hb4 hb5')
      | (go_at_call 30; refine (R6Decode_any s hs).mono ?_; rintro e w6 ⟨vy, rfl, hy, hb6'⟩; rw [HDS.out, HO.out] at hy ⊢; have hb6 := below_trans hb5 hb6')
      | (go_at_call 31; refine (R6Same_eq (hx.below hb6') hy).mono ?_; rintro e w7 ⟨rfl, hb7'⟩; have hb7 := below_trans hb6 hb7'))
    exact bodyPost_ret (v := .bool true) (by simp [results, Tryz.results5, go_sem]) rfl ⟨rfl, hb7⟩
  · have HG := Lib.hid hg
    clear h hE hg
    go_enter Tryz.func5, Tryz.ntmps5
    go_wp2_with (first
      | (go_at_call 25; refine (awake_any _).mono ?_; rintro e w1 ⟨rfl, hb1⟩)
      | (go_at_call 26; refine (great_any (HR.out.below hb1)).mono ?_; rintro e w2 ⟨rfl, rfl⟩; rw [HG.out]))
    exact bodyPost_ret (v := .bool true) (by simp [results, Tryz.results5, go_sem]) rfl ⟨rfl, hb1⟩
end Go.Proofs.YtjkobbmdemooaaaGreatDoor
