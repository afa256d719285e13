/- What Apply answers, case by case; plan.change at any event. -/
import Derived.Test.YtjkobbmdemooaaaGreatDoorPlCh3
import Derived.Test.YtjkobbmdemooaaaGreatDoorPlCh4
import Derived.Test.YtjkobbmdemooaaaGreatDoorPlCh5
import Derived.Test.YtjkobbmdemooaaaGreatDoorPlF
namespace Go.Proofs.YtjkobbmdemooaaaGreatDoor
open Go.RowKit

theorem applyP_arg {p : Pl} {x : Event} (h : canB p x = false) : applyP p x = (.zero, [], 1) := by simp [applyP, h]
theorem applyP_err {p : Pl} {x : Event} {q : Pl} {T : List Int} {e : Int} (h : canB p x = true) (hR : changeP p x = (q, T, e)) (he : e ≠ 0) : applyP p x = (.zero, [], e) := by simp [applyP, h, hR, he]
theorem applyP_create {p : Pl} {x : Event} {q : Pl} {T : List Int} (h : canB p x = true) (hR : changeP p x = (q, T, 0)) (hk : x.kind = 4) : applyP p x = (q, T, 0) := by simp [applyP, h, hR, hk]
theorem applyP_ok {p : Pl} {x : Event} {q : Pl} {T : List Int} {Q : List Pt} (h : canB p x = true) (hR : changeP p x = (q, T, 0)) (hk : x.kind ≠ 4) (hb : bumpP q.parts T = some Q) : applyP p x = (⟨q.nodes, q.copies, Q, q.lives⟩, T, 0) := by simp [applyP, h, hR, hk, hb]
theorem applyP_many {p : Pl} {x : Event} {q : Pl} {T : List Int} (h : canB p x = true) (hR : changeP p x = (q, T, 0)) (hk : x.kind ≠ 4) (hb : bumpP q.parts T = none) : applyP p x = (.zero, [], 32) := by simp [applyP, h, hR, hk, hb]

theorem eventB_part {x : Event} (h : eventB x = true) : 0 ≤ x.part := by
  unfold eventB at h
  split at h
  · simp [inB] at h; omega
  split at h
  · simp [inB] at h; omega
  split at h
  · simp [inB] at h; omega
  split at h
  · simp at h; omega
  split at h
  · simp [inB] at h; omega
  · cases h

theorem eventB_kind {x : Event} (h : eventB x = true) : x.kind = 1 ∨ x.kind = 2 ∨ x.kind = 3 ∨ x.kind = 4 ∨ x.kind = 5 := by
  unfold eventB at h
  by_cases h1 : x.kind = 1
  · exact .inl h1
  by_cases h2 : x.kind = 2
  · exact .inr (.inl h2)
  by_cases h3 : x.kind = 3
  · exact .inr (.inr (.inl h3))
  by_cases h4 : x.kind = 4
  · exact .inr (.inr (.inr (.inl h4)))
  by_cases h5 : x.kind = 5
  · exact .inr (.inr (.inr (.inr h5)))
  · simp [h1, h2, h3, h4, h5] at h

theorem canB_iff {p : Pl} {x : Event} : canB p x = true ↔ goodP p = true ∧ eventB x = true ∧ x.node ≤ p.nodes ∧ x.part < (p.parts.length : Int) := by
  simp [canB]

theorem change_any {w : World} {N pb : Nat} {p : Pl} {pa : Option Addr} {pc : Nat} {la : Option Addr} {lc : Nat} {m : List (Value × Pt)} (h : PlanOwn w N pb p pa pc la lc m) (x : Event) (hc : canB p x = true) :
    Calls Tryz.prog 40 #[.pointer (some ⟨pb, 0, none⟩), x.v] w (ChangedTo w N pb (changeP p x)) := by
  obtain ⟨hg, he, -, hp⟩ := canB_iff.1 hc
  have h0 := eventB_part he
  obtain ⟨k, nd, pt, cn⟩ := x
  simp only at hp h0
  obtain ⟨j, rfl⟩ := Int.eq_ofNat_of_zero_le h0
  have hj : j < p.parts.length := by omega
  rcases eventB_kind he with h1 | h1 | h1 | h1 | h1
  · simp only at h1; subst h1; exact change_boot h hg _ _ _
  · simp only at h1; subst h1; exact change_dead h hg _ _ _
  · simp only at h1; subst h1; exact change_ready h hg _ _ _ hj
  · simp only at h1; subst h1; exact change_create h hg _ _ _
  · simp only at h1; subst h1; exact change_join h hg _ _ _ hj

/-- Epochs stay within their bounds. -/
def EpOk (P : List Pt) : Prop := ∀ x ∈ P, 1 ≤ x.epoch ∧ x.epoch ≤ 1073741824

theorem changeP_epochs {p : Pl} {x : Event} (hc : canB p x = true) : EpOk (changeP p x).1.parts := by
  obtain ⟨hg, he, -, hp⟩ := canB_iff.1 hc
  have h0 := eventB_part he
  obtain ⟨j, hj0, hj, hat⟩ := atP_eq h0 hp
  have hep : EpOk p.parts := fun y hy => (isPlaceB_iff.1 ((goodP_iff.1 hg).2.2.2.1 y hy)).2.2.1
  have hset : ∀ (c : List Int) (l : Int), EpOk (p.parts.set x.part.toNat ⟨(atP p.parts x.part).epoch, c, l⟩) := by
    intro c l y hy
    rcases List.mem_or_eq_of_mem_set hy with h2 | rfl
    · exact hep y h2
    · rw [hat]
      have := hep _ (List.getElem_mem hj)
      exact this
  have hd : EpOk (p.parts.map (deadX x.node)) := by
    intro y hy
    obtain ⟨z, hz, rfl⟩ := List.mem_map.1 hy
    have := hep z hz
    unfold deadX
    split
    · exact this
    · split
      · exact this
      · exact this
  unfold changeP
  repeat' split
  all_goals first | exact hep | exact hset _ _ | exact hd | skip
  intro y hy
  rcases List.mem_append.1 hy with h2 | h2
  · exact hep y h2
  · simp at h2; subst h2; simp [placeP]

theorem TurnRd.nil (w : World) : TurnRd w (.slice none 0 0) [] := fun _ _ _ _ => IntsRd.nil _
theorem TurnRd.rd {w : World} {tv : Value} {l : List Int} (h : TurnRd w tv l) : IntsRd w tv l := h (fun _ => False) w (fun _ h => h.elim) (Upd.refl _ _)

theorem TurnRd.upd {w w' : World} {F : Nat → Prop} {tv : Value} {l : List Int} (h : TurnRd w tv l) (hF : ∀ k, F k → ∃ cur T, w.heap[k]? = some (.cells cur T (0, 0)) ∧ T ≠ 3) (hu : Upd F w w') : TurnRd w' tv l := by
  intro G W hG hu2
  refine h (fun k => F k ∨ (k < w.heap.size ∧ G k)) W ?_ ⟨hu2.os.trans hu.os, hu2.tape.trans hu.tape, hu2.output.trans hu.output, Nat.le_trans hu.size hu2.size, fun k hk hn => (hu2.block k (Nat.lt_of_lt_of_le hk hu.size) (fun hg => hn (.inr ⟨hk, hg⟩))).trans (hu.block k hk (fun hf => hn (.inl hf)))⟩
  rintro k (hf | ⟨hk, hg⟩)
  · exact hF k hf
  · by_cases hf : F k
    · exact hF k hf
    · obtain ⟨cur, T, hc, hT⟩ := hG k hg
      exact ⟨cur, T, by rw [← hu.block k hk hf]; exact hc, hT⟩
theorem TurnRd.below {w w' : World} {tv : Value} {l : List Int} (h : TurnRd w tv l) (hb : Below w.heap.size w w') : TurnRd w' tv l := h.upd (F := fun _ => False) (fun _ h => h.elim) (Upd.of_below hb)

theorem zero_rd (w : World) : PlanRd w (.agg #[.int .i64 0, .int .i64 0, .slice none 0 0, .slice none 0 0]) .zero :=
  ⟨_, _, rfl, ⟨[], rfl, ⟨rfl, .inl ⟨rfl, rfl⟩⟩, by simp⟩, ⟨rfl, .inl ⟨rfl, rfl⟩⟩⟩

def Applied (w : World) (p : Pl) (x : Event) (e : Ending) (w' : World) : Prop :=
  ∃ v tv, e = .returned (.tuple #[v, tv, .int .i64 (applyP p x).2.2]) ∧ PlanFrom w' w.heap.size v (applyP p x).1 ∧ TurnRd w' tv (applyP p x).2.1 ∧ Below w.heap.size w w'
end Go.Proofs.YtjkobbmdemooaaaGreatDoor
