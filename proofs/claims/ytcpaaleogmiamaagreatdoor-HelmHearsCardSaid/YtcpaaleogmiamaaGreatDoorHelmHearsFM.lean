/- HelmHears returns true for every row of beats, and leaves its argument as it was. Conditions: the listed variables of the library hold what the program's text lays (the card ties them). -/
import Derived.Test.YtcpaaleogmiamaaGreatDoorMh49
import Derived.Test.YtcpaaleogmiamaaGreatDoorMh47
import Derived.Test.YtcpaaleogmiamaaGreatDoorCards
import Derived.Test.YtcpaaleogmiamaaGreatDoorTie
import Derived.Deep.DeepHandedRow
import Derived.Deep.DeepWitnessRowRef
import Derived.SevenTiedAt
namespace Go.Proofs.YtcpaaleogmiamaaGreatDoor
open Go.ChangeShapes Go.WideShapes Go.ChangeAt Go.RowKit

theorem reads (os : Os) {H : Type} (enc : TypeId × Value → H) : ∃ places, DataW.whole enc Tryz.prog ((World.doorLaid Tryz.prog 400 os).forCall (fun _ _ => 0) ⟨#[], #[.slice none 0 0], []⟩).memory Tryz.f3.params.toList Rows.helmHearsSpec.vars false #[Value.slice none 0 0].toList 8 = some ([.nil], [], places) :=
  ⟨[], by kernel_rfl⟩

set_option maxRecDepth 100000 in
theorem helmHears_lifted (os : Os) (started : os.Started) (H : Type) (enc : TypeId × Value → H) (F : Stop.Interp) :
    ReturnsInHanded {} Tryz.checked os 3 .any ((OpenSpec.ofChange Rows.helmHearsSpec).preRow enc Tryz.prog Tryz.f3 Rows.helmHearsRow.domain false Rows.helmHearsRow.laid) (((OpenSpec.ofChange Rows.helmHearsSpec).at F).post enc Tryz.prog Tryz.f3 false true false false) := by
  obtain ⟨places, hx⟩ := reads os enc
  refine returnsInHanded_of_row (C := Tryz.checked) (s := OpenSpec.ofChange Rows.helmHearsSpec) Tryz.own started (by kernel_rfl) Tryz.func3
    (witness_row_atRef (enc := enc) (C := Tryz.checked) false (World.doorLaid Tryz.prog 400 os) #[.slice none 0 0] rfl (by kernel_rfl) (by kernel_rfl) (by kernel_rfl)
      (OpenSpec.preRow_of_cond 8 hx (by kernel_rfl) (fun k hk => by cases hk) (by kernel_rfl) (laid_met os _))) ?_
  intro W base args ds gs before hval0 hW _ _ hwt hL _ _
  have hval : ∀ (j : Nat) t v, Tryz.f3.params[j]? = some t → args[j]? = some v → Value.okWide Tryz.prog W .any base t v := hval0
  have hW : DataW.Whole enc Tryz.prog Tryz.f3.params.toList Rows.helmHearsSpec.vars false W args.toList ds gs before := hW
  have hW' := hW
  obtain ⟨p, q, hA0, hV, rfl, hfz, hnd⟩ := hW
  have hA : DataW.TrodAll enc Tryz.prog W 0 (fun _ => true) true Tryz.f3.params.toList args.toList ds p := hA0
  rw [Tryz.params3] at hA hval
  obtain ⟨v0, d0, rfl, rfl, h0⟩ := trodAll_one hA
  obtain ⟨rfl, rfl⟩ := trodVars_none hV
  obtain ⟨bt, hp⟩ := ints_of_trod (hval 0 22 v0 rfl rfl) h0
  clear hA0 hval0 hwt
  simp only [List.append_nil] at hW'
  refine (HHears_any (env_of_laid hL) hp).mono fun e W' ⟨he, hb⟩ => ?_
  subst he
  have hk0 := Below.trod Tryz.laidOut (by kernel_rfl) (of_decide_eq_true (by kernel_rfl)) h0 hb (fun x hx => hW'.lt x (by simp [hx]))
  exact ⟨_, rfl, _, _, _, [], _, [], hW', trodAll_mk1 (shut_bool Tryz.underlying4 _), trodAll_mk1 hk0, rfl, hb.frame _, fun h => by cases h⟩

theorem hs_named : Tryz.pinned.checked.prog.funcNamed Rows.helmHearsRow.func = some 3 := by kernel_rfl
theorem hs_inst : Tryz.f3.isInstance Tryz.pinned.checked.prog Rows.helmHearsRow.origin Rows.helmHearsRow.targs := of_decide_eq_true (by kernel_rfl)
theorem hs_wrap : Tryz.f3.isWrapper Tryz.pinned.checked.prog Rows.helmHearsRow.wrapper Rows.helmHearsRow.mainSum := by
  unfold Func.isWrapper; first | (rw [if_pos (by decide +kernel)]; kernel_rfl) | (rw [if_neg (by decide +kernel)]; exact ⟨rfl, rfl⟩)

theorem helmHears_said : Rows.HelmHearsSaid :=
  OpenClaim.holds_of_cond 3 Tryz.f3 rfl rfl rfl rfl rfl rfl rfl ⟨rfl, rfl, rfl, rfl, rfl⟩ rfl rfl rfl rfl rfl hs_named Tryz.func3 hs_closed
    hs_inst hs_wrap
    (fun os started H enc _ F => by rw [OpenClaim.pre_eq_preRow]; exact helmHears_lifted os started H enc F)

theorem plain (f : FuncId) (fn : Func) (hf : Tryz.pinned.checked.prog.funcNamed Rows.helmHearsRow.func = some f) (hfn : Tryz.pinned.checked.prog.funcs[f]? = some fn) :
    true = Tryz.pinned.checked.prog.looks [] ∧ ∀ (j : Nat) t, fn.params[j]? = some t → Tryz.pinned.checked.prog.wantsStandIn t = false := by
  obtain rfl : f = 3 := Option.some.inj ((show Tryz.prog.funcNamed Rows.helmHearsRow.func = some 3 by kernel_rfl).symm.trans hf) |>.symm
  obtain rfl : fn = Tryz.f3 := (Option.some.inj (Tryz.func3.symm.trans hfn)).symm
  refine ⟨by kernel_rfl, fun j t ht => ?_⟩
  rw [Tryz.params3] at ht
  have hm : t ∈ [22] := by simpa using Array.mem_of_getElem? ht
  have hall : ([22].all fun u => !Tryz.prog.wantsStandIn u) = true := by kernel_rfl
  exact (show Tryz.prog.wantsStandIn t = false by simpa using List.all_eq_true.1 hall t hm)

theorem helmHears_card : Rows.HelmHearsCardSaid :=
  Claim7.holds_tied_plain_at .later [] _ _ _ _ helmHears_said (fun _ h => by cases h) (by kernel_rfl) (fun _ h => by cases h) helmHears_row_tie rfl ⟨rfl, rfl⟩ (by kernel_rfl) rfl plain (by kernel_rfl)
end Go.Proofs.YtcpaaleogmiamaaGreatDoor
