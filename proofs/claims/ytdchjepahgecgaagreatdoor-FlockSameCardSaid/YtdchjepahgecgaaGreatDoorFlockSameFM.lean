/- FlockSame returns true for every number of partitions, every list of requests and every record, and leaves its arguments as they were. Conditions: the listed variables of the library hold what the program's text lays (the card ties them). -/
import Derived.Test.YtdchjepahgecgaaGreatDoorMq43
import Derived.Test.YtdchjepahgecgaaGreatDoorFlWsM
import Derived.Test.YtdchjepahgecgaaGreatDoorCards
import Derived.Test.YtdchjepahgecgaaGreatDoorTie
import Derived.Deep.DeepHandedRow
import Derived.Deep.DeepWitnessRowRef
import Derived.SevenTiedAt
namespace Go.Proofs.YtdchjepahgecgaaGreatDoor
open Go.ChangeShapes Go.WideShapes Go.ChangeAt Go.RowKit

theorem reads (os : Os) {H : Type} (enc : TypeId × Value → H) : ∃ places, DataW.whole enc Tryz.prog ((World.laidAll Tryz.prog os flLaid).forCall (fun _ _ => 0) ⟨#[], #[Value.int .i64 0, .slice none 0 0, .agg #[.int .i64 0, .string ⟨#[]⟩, .string ⟨#[]⟩, .bool false]], []⟩).memory Tryz.f6.params.toList Rows.flockSameSpec.vars false #[Value.int .i64 0, .slice none 0 0, .agg #[.int .i64 0, .string ⟨#[]⟩, .string ⟨#[]⟩, .bool false]].toList 8 = some ([.lit (.int .i64 0), .nil, .agg [.lit (.int .i64 0), .lit (.string []), .lit (.string []), .lit (.bool false)]], [], places) :=
  ⟨[], by kernel_rfl⟩

set_option maxRecDepth 100000 in
theorem flockSame_lifted (os : Os) (started : os.Started) (H : Type) (enc : TypeId × Value → H) (F : Stop.Interp) :
    ReturnsInHanded {} Tryz.checked os 6 .any ((OpenSpec.ofChange Rows.flockSameSpec).preRow enc Tryz.prog Tryz.f6 Rows.flockSameRow.domain false Rows.flockSameRow.laid) (((OpenSpec.ofChange Rows.flockSameSpec).at F).post enc Tryz.prog Tryz.f6 false true false false) := by
  obtain ⟨places, hx⟩ := reads os enc
  refine returnsInHanded_of_row (C := Tryz.checked) (s := OpenSpec.ofChange Rows.flockSameSpec) Tryz.own started (by kernel_rfl) Tryz.func6
    (witness_row_atRef (enc := enc) (C := Tryz.checked) false (World.laidAll Tryz.prog os flLaid) #[Value.int .i64 0, .slice none 0 0, .agg #[.int .i64 0, .string ⟨#[]⟩, .string ⟨#[]⟩, .bool false]] (World.laidAll_os _ _ _) (by kernel_rfl) (by kernel_rfl) (by kernel_rfl)
      (OpenSpec.preRow_of_cond 8 hx (by kernel_rfl) (fun k hk => by cases hk) (by kernel_rfl) (laid_met os _))) ?_
  intro W base args ds gs before hval0 hW _ _ _ hL _ _
  have hval : ∀ (j : Nat) t v, Tryz.f6.params[j]? = some t → args[j]? = some v → Value.okWide Tryz.prog W .any base t v := hval0
  have hW : DataW.Whole enc Tryz.prog Tryz.f6.params.toList Rows.flockSameSpec.vars false W args.toList ds gs before := hW
  have hW' := hW
  obtain ⟨p, q, hA0, hV, rfl, hfz, hnd⟩ := hW
  have hA : DataW.TrodAll enc Tryz.prog W 0 (fun _ => true) true Tryz.f6.params.toList args.toList ds p := hA0
  rw [Tryz.params6] at hA hval
  obtain ⟨v0, v1, v2, d0, d1, d2, p0, p1, p2, rfl, rfl, rfl, h0, h1, h2⟩ := trodAll_three hA
  obtain ⟨rfl, rfl⟩ := trodVars_none hV
  obtain ⟨z0, rfl, rfl, rfl, -⟩ := Go.ChangeShapes.open_int Tryz.underlying3 (hval 0 3 v0 rfl rfl) h0
  obtain ⟨l1, hl1⟩ := reqs_of_trod (hval 1 31 v1 rfl rfl) h1
  obtain ⟨y2, rfl⟩ := rec_of_trod (hval 2 28 v2 rfl rfl) h2
  clear hA0 hval0
  simp only [List.append_nil, List.nil_append] at hW'
  refine (FSame_any hl1 z0 y2 (env_of_laid hL)).mono fun e W' ⟨he, hb⟩ => ?_
  subst he
  have hk0 := Below.trod Tryz.laidOut (by kernel_rfl) (of_decide_eq_true (by kernel_rfl)) h0 hb (fun x hx => hW'.lt x (by simp at hx))
  have hk1 := Below.trod Tryz.laidOut (by kernel_rfl) (of_decide_eq_true (by kernel_rfl)) h1 hb (fun x hx => hW'.lt x (by simp [hx]))
  have hk2 := Below.trod Tryz.laidOut (by kernel_rfl) (of_decide_eq_true (by kernel_rfl)) h2 hb (fun x hx => hW'.lt x (by simp [hx]))
  exact ⟨_, rfl, _, _, _, [], p1 ++ p2, [], hW', trodAll_mk1 (shut_bool Tryz.underlying4 _), (by have := trodAll_mk3 hk0 hk1 hk2; simp only [List.nil_append, List.append_nil] at this; exact this), rfl, hb.frame _, fun h => by cases h⟩

theorem flockSame_said : Rows.FlockSameSaid :=
  OpenClaim.holds_of_cond 6 Tryz.f6 rfl rfl rfl rfl rfl rfl rfl ⟨rfl, rfl, rfl, rfl, rfl⟩ rfl rfl rfl rfl rfl (by kernel_rfl) Tryz.func6 (by kernel_rfl)
    (of_decide_eq_true (by kernel_rfl)) (by unfold Func.isWrapper; first | (rw [if_pos (by decide +kernel)]; kernel_rfl) | (rw [if_neg (by decide +kernel)]; exact ⟨rfl, rfl⟩))
    (fun os started H enc _ F => by rw [OpenClaim.pre_eq_preRow]; exact flockSame_lifted os started H enc F)

theorem plain (f : FuncId) (fn : Func) (hf : Tryz.pinned.checked.prog.funcNamed Rows.flockSameRow.func = some f) (hfn : Tryz.pinned.checked.prog.funcs[f]? = some fn) :
    true = Tryz.pinned.checked.prog.looks [] ∧ ∀ (j : Nat) t, fn.params[j]? = some t → Tryz.pinned.checked.prog.wantsStandIn t = false := by
  obtain rfl : f = 6 := Option.some.inj ((show Tryz.prog.funcNamed Rows.flockSameRow.func = some 6 by kernel_rfl).symm.trans hf) |>.symm
  obtain rfl : fn = Tryz.f6 := (Option.some.inj (Tryz.func6.symm.trans hfn)).symm
  refine ⟨by kernel_rfl, fun j t ht => ?_⟩
  rw [Tryz.params6] at ht
  have hm : t ∈ [3, 31, 28] := by simpa using Array.mem_of_getElem? ht
  have hall : ([3, 31, 28].all fun u => !Tryz.prog.wantsStandIn u) = true := by kernel_rfl
  exact (show Tryz.prog.wantsStandIn t = false by simpa using List.all_eq_true.1 hall t hm)

theorem flockSame_card : Rows.FlockSameCardSaid :=
  Claim7.holds_tied_plain_at .later [] _ _ _ _ flockSame_said (fun _ h => by cases h) (by kernel_rfl) (fun _ h => by cases h) flockSame_row_tie rfl ⟨rfl, rfl⟩ (by kernel_rfl) rfl plain (by kernel_rfl)
end Go.Proofs.YtdchjepahgecgaaGreatDoor
