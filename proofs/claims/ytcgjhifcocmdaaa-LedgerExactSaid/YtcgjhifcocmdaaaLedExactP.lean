/- LedgerExact returns true for every table, every slice of batches and every slice of pairs, and leaves its arguments as they were. -/
import Derived.Test.YtcgjhifcocmdaaaLedE10
namespace Go.Proofs.Ytcgjhifcocmdaaa
open Go.ChangeShapes Go.WideShapes Go.ChangeAt Go.RowKit

theorem seens_of_trod {H : Type} {enc : TypeId × Value → H} {W : World} {v : Value} {d : DataW H} {ps : List MemPlace} {base : Nat}
    (hv : Value.okWide Try.prog W .any base 43 v) (h : DataW.Trod enc Try.prog W 0 (fun _ => true) true 43 v d ps) : ∃ T, SeensRd W v T := by
  obtain ⟨a0, len, cap, rfl⟩ := okWide_slice und_Seens hv
  obtain ⟨fuel, hf⟩ := h
  obtain ⟨v', T, e, hr⟩ := seens_trod hf
  simp [Value.cells] at e
  subst e
  exact ⟨T, hr⟩

theorem batches_of_trod {H : Type} {enc : TypeId × Value → H} {W : World} {v : Value} {d : DataW H} {ps : List MemPlace} {base : Nat}
    (hv : Value.okWide Try.prog W .any base 44 v) (h : DataW.Trod enc Try.prog W 0 (fun _ => true) true 44 v d ps) : ∃ l, BatchesRd W v l := by
  obtain ⟨a0, len, cap, rfl⟩ := okWide_slice und_Batches hv
  obtain ⟨fuel, hf⟩ := h
  obtain ⟨v', T, e, hr⟩ := batches_trod hf
  simp [Value.cells] at e
  subst e
  exact ⟨T, hr⟩

set_option maxRecDepth 100000 in
theorem ledgerExact_lifted (os : Os) (started : os.Started) (H : Type) (enc : TypeId × Value → H) :
    ReturnsInHanded {} Try.checked os 5 .any (Rows.ledgerExactSpec.pre6 enc Try.prog Try.f5 Rows.ledgerExactRow.domain false) (Rows.ledgerExactSpec.post enc Try.prog Try.f5 false true false false) := by
  refine returnsInHanded_of_change (C := Try.checked) Try.own started (by kernel_rfl) Try.func5
    (ChangeSpec.witness6 (enc := enc) (C := Try.checked) false ⟨#[], #[.slice none 0 0, .slice none 0 0, .slice none 0 0], []⟩ 8 (by kernel_rfl) (by kernel_rfl) (by kernel_rfl) (by kernel_rfl)) ?_
  intro W base args ds gs before hval0 hW hcnd _
  have hval : ∀ (j : Nat) t v, Try.f5.params[j]? = some t → args[j]? = some v → Value.okWide Try.prog W .any base t v := hval0
  have hW' := hW
  obtain ⟨p, q, hA0, hV, rfl, hfz, hnd⟩ := hW
  have hA : DataW.TrodAll enc Try.prog W 0 (fun _ => true) true Try.f5.params.toList args.toList ds p := hA0
  rw [Try.params5] at hA hval
  obtain ⟨v0, v1, v2, d0, d1, d2, p0, p1, p2, rfl, rfl, rfl, h0, h1, h2⟩ := trodAll_three hA
  obtain ⟨rfl, rfl⟩ := trodVars_none hV
  obtain ⟨T, hT⟩ := seens_of_trod (hval 0 43 v0 rfl rfl) h0
  obtain ⟨l, hl⟩ := batches_of_trod (hval 1 44 v1 rfl rfl) h1
  obtain ⟨qs, hqs⟩ := pairs_of_trod (hval 2 22 v2 rfl rfl) h2
  clear hA0 hval0
  simp only [List.append_nil] at hW'
  refine (Exact_any hT hl hqs).mono fun e W' ⟨he, hb⟩ => ?_
  subst he
  have hk0 := Below.trod Try.laidOut (by kernel_rfl) (of_decide_eq_true (by kernel_rfl)) h0 hb (fun x hx => hW'.lt x (by simp [hx]))
  have hk1 := Below.trod Try.laidOut (by kernel_rfl) (of_decide_eq_true (by kernel_rfl)) h1 hb (fun x hx => hW'.lt x (by simp [hx]))
  have hk2 := Below.trod Try.laidOut (by kernel_rfl) (of_decide_eq_true (by kernel_rfl)) h2 hb (fun x hx => hW'.lt x (by simp [hx]))
  refine ⟨_, rfl, _, _, _, [], p0 ++ (p1 ++ p2), [], hW', trodAll_mk1 (shut_bool Try.underlying4 _), (by have := trodAll_mk3 hk0 hk1 hk2; exact this), rfl, hb.frame _, fun h => by cases h⟩

theorem ledgerExact_holds : Rows.LedgerExactSaid :=
  OpenClaim.holds_of_wide 5 Try.f5 rfl rfl rfl rfl rfl rfl rfl ⟨rfl, rfl, rfl, rfl, rfl⟩ rfl rfl rfl rfl rfl (by kernel_rfl) Try.func5 (by kernel_rfl)
    (of_decide_eq_true (by kernel_rfl)) (by unfold Func.isWrapper; rw [if_neg (of_decide_eq_false (by kernel_rfl))]; exact ⟨rfl, rfl⟩)
    (fun os started H enc _ => ledgerExact_lifted os started H enc)
end Go.Proofs.Ytcgjhifcocmdaaa
