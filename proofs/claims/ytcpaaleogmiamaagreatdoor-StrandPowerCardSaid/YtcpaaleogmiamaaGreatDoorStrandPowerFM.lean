/- StrandPower returns true for all numbers, every row of acts and every row of letters, and leaves its arguments as they were. Conditions: the listed variables of the library hold what the program's text lays (the card ties them). -/
import Derived.Test.YtcpaaleogmiamaaGreatDoorMp47
import Derived.Test.YtcpaaleogmiamaaGreatDoorMp44
import Derived.Test.YtcpaaleogmiamaaGreatDoorCards
import Derived.Test.YtcpaaleogmiamaaGreatDoorTie
import Derived.Deep.DeepHandedRow
import Derived.Deep.DeepWitnessRowRef
import Derived.SevenTiedAt
namespace Go.Proofs.YtcpaaleogmiamaaGreatDoor
open Go.ChangeShapes Go.WideShapes Go.ChangeAt Go.RowKit

theorem reads (os : Os) {H : Type} (enc : TypeId × Value → H) : ∃ places, DataW.whole enc Tryz.prog ((World.laidAll Tryz.prog os stLaid).forCall (fun _ _ => 0) ⟨#[], #[.int .i64 0, .slice none 0 0, .slice none 0 0], []⟩).memory Tryz.f6.params.toList Rows.strandPowerSpec.vars false #[(Value.int .i64 0), (Value.slice none 0 0), (Value.slice none 0 0)].toList 8 = some ([.lit (.int .i64 0), .nil, .nil], [], places) :=
  ⟨[], by kernel_rfl⟩

set_option maxRecDepth 100000 in
theorem strandPower_lifted (os : Os) (started : os.Started) (H : Type) (enc : TypeId × Value → H) (F : Stop.Interp) :
    ReturnsInHanded {} Tryz.checked os 6 .any ((OpenSpec.ofChange Rows.strandPowerSpec).preRow enc Tryz.prog Tryz.f6 Rows.strandPowerRow.domain false Rows.strandPowerRow.laid) (((OpenSpec.ofChange Rows.strandPowerSpec).at F).post enc Tryz.prog Tryz.f6 false true false false) := by
  obtain ⟨places, hx⟩ := reads os enc
  refine returnsInHanded_of_row (C := Tryz.checked) (s := OpenSpec.ofChange Rows.strandPowerSpec) Tryz.own started (by kernel_rfl) Tryz.func6
    (witness_row_atRef (enc := enc) (C := Tryz.checked) false (World.laidAll Tryz.prog os stLaid) #[.int .i64 0, .slice none 0 0, .slice none 0 0] (World.laidAll_os _ _ _) (by kernel_rfl) (by kernel_rfl) (by kernel_rfl)
      (OpenSpec.preRow_of_cond 8 hx (by kernel_rfl) (fun k hk => by cases hk) (by kernel_rfl) (laid_met os _))) ?_
  intro W base args ds gs before hval0 hW _ _ hwt hL _ _
  have hval : ∀ (j : Nat) t v, Tryz.f6.params[j]? = some t → args[j]? = some v → Value.okWide Tryz.prog W .any base t v := hval0
  have hW : DataW.Whole enc Tryz.prog Tryz.f6.params.toList Rows.strandPowerSpec.vars false W args.toList ds gs before := hW
  have hW' := hW
  obtain ⟨p, q, hA0, hV, rfl, hfz, hnd⟩ := hW
  have hA : DataW.TrodAll enc Tryz.prog W 0 (fun _ => true) true Tryz.f6.params.toList args.toList ds p := hA0
  rw [Tryz.params6] at hA hval
  obtain ⟨v0, v1, v2, d0, d1, d2, p0, p1, p2, rfl, rfl, rfl, h0, h1, h2⟩ := trodAll_three hA
  obtain ⟨rfl, rfl⟩ := trodVars_none hV
  obtain ⟨z0, rfl⟩ := int7_of_trod (hval 0 3 v0 rfl rfl) h0
  obtain ⟨A, hacts⟩ := acts7_of_trod (hval 1 72 v1 rfl rfl) h1
  obtain ⟨pw, hp⟩ := ints7_of_trod (hval 2 22 v2 rfl rfl) h2
  clear hA0 hval0 hwt
  simp only [List.append_nil] at hW'
  refine (StPower_any (env_of_laid hL) z0 hacts hp).mono fun e W' ⟨he, hb⟩ => ?_
  subst he
  have hk0 := Below.trod Tryz.laidOut (by kernel_rfl) (of_decide_eq_true (by kernel_rfl)) h0 hb (fun x hx => hW'.lt x (by simp [hx]))
  have hk1 := Below.trod Tryz.laidOut (by kernel_rfl) (of_decide_eq_true (by kernel_rfl)) h1 hb (fun x hx => hW'.lt x (by simp [hx]))
  have hk2 := Below.trod Tryz.laidOut (by kernel_rfl) (of_decide_eq_true (by kernel_rfl)) h2 hb (fun x hx => hW'.lt x (by simp [hx]))
  exact ⟨_, rfl, _, _, _, [], _, [], hW', trodAll_mk1 (shut_bool Tryz.underlying4 _), (by have := trodAll_mk3 hk0 hk1 hk2; rw [← List.append_assoc] at this; exact this), rfl, hb.frame _, fun h => by cases h⟩

theorem hp_named : Tryz.pinned.checked.prog.funcNamed Rows.strandPowerRow.func = some 6 := by kernel_rfl
theorem hp_inst : Tryz.f6.isInstance Tryz.pinned.checked.prog Rows.strandPowerRow.origin Rows.strandPowerRow.targs := of_decide_eq_true (by kernel_rfl)
theorem hp_wrap : Tryz.f6.isWrapper Tryz.pinned.checked.prog Rows.strandPowerRow.wrapper Rows.strandPowerRow.mainSum := by
  unfold Func.isWrapper; first | (rw [if_pos (by decide +kernel)]; kernel_rfl) | (rw [if_neg (by decide +kernel)]; exact ⟨rfl, rfl⟩)

theorem strandPower_said : Rows.StrandPowerSaid :=
  OpenClaim.holds_of_cond 6 Tryz.f6 rfl rfl rfl rfl rfl rfl rfl ⟨rfl, rfl, rfl, rfl, rfl⟩ rfl rfl rfl rfl rfl hp_named Tryz.func6 hp_closed
    hp_inst hp_wrap
    (fun os started H enc _ F => by rw [OpenClaim.pre_eq_preRow]; exact strandPower_lifted os started H enc F)

theorem plain (f : FuncId) (fn : Func) (hf : Tryz.pinned.checked.prog.funcNamed Rows.strandPowerRow.func = some f) (hfn : Tryz.pinned.checked.prog.funcs[f]? = some fn) :
    true = Tryz.pinned.checked.prog.looks [] ∧ ∀ (j : Nat) t, fn.params[j]? = some t → Tryz.pinned.checked.prog.wantsStandIn t = false := by
  obtain rfl : f = 6 := Option.some.inj ((show Tryz.prog.funcNamed Rows.strandPowerRow.func = some 6 by kernel_rfl).symm.trans hf) |>.symm
  obtain rfl : fn = Tryz.f6 := (Option.some.inj (Tryz.func6.symm.trans hfn)).symm
  refine ⟨by kernel_rfl, fun j t ht => ?_⟩
  rw [Tryz.params6] at ht
  have hm : t ∈ [3, 72, 22] := by simpa using Array.mem_of_getElem? ht
  have hall : ([3, 72, 22].all fun u => !Tryz.prog.wantsStandIn u) = true := by kernel_rfl
  exact (show Tryz.prog.wantsStandIn t = false by simpa using List.all_eq_true.1 hall t hm)

theorem strandPower_card : Rows.StrandPowerCardSaid :=
  Claim7.holds_tied_plain_at .later [] _ _ _ _ strandPower_said (fun _ h => by cases h) (by kernel_rfl) (fun _ h => by cases h) strandPower_row_tie rfl ⟨rfl, rfl⟩ (by kernel_rfl) rfl plain (by kernel_rfl)
end Go.Proofs.YtcpaaleogmiamaaGreatDoor
