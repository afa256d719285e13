/- What memory holds in LedgerOnce's loop. -/
import Derived.Test.YtcgjhifcocmdaaaLedO
namespace Go.Proofs.Ytcgjhifcocmdaaa
open Go.RowKit

/-- v is a slice that reads the pairs l. -/
def PairsAt (w : World) (v : Value) (l : List (Int × Int)) : Prop :=
  ∃ a cap, v = .slice a l.length cap ∧ l.length ≤ 9223372036854775807 ∧ ∀ i (h : i < l.length), ∃ b off, a = some ⟨b, off, none⟩ ∧ b < w.heap.size ∧
    w.cell? ⟨b, off + i * 2, none⟩ = some (.int .i64 l[i].1) ∧ w.cell? ⟨b, off + i * 2 + 1, none⟩ = some (.int .i64 l[i].2)

theorem PairsAt.below {w w' : World} {v : Value} {l : List (Int × Int)} (h : PairsAt w v l) (hb : Below w.heap.size w w') : PairsAt w' v l := by
  obtain ⟨a, cap, e, hl, hc⟩ := h
  refine ⟨a, cap, e, hl, fun i hi => ?_⟩
  obtain ⟨b, off, e, hlt, h1, h2⟩ := hc i hi
  exact ⟨b, off, e, Nat.lt_of_lt_of_le hlt hb.size, below_some hb h1 hlt, below_some hb h2 hlt⟩

theorem u64mod (x : Int) (n : Nat) (h0 : 0 < n) (h1 : n ≤ 1000) : ∃ p : Nat, wrap64 ((IntKind.u64.wrap x).tmod n) = p ∧ p < n := by
  have h2 : 0 ≤ IntKind.u64.wrap x := by
    simp only [IntKind.wrap, IntKind.bits, IntKind.signed]; simp; omega
  have h3 : (IntKind.u64.wrap x).tmod n = (IntKind.u64.wrap x) % n := Int.tmod_eq_emod_of_nonneg h2
  have h4 : 0 ≤ (IntKind.u64.wrap x) % (n : Int) := Int.emod_nonneg _ (by omega)
  have h5 : (IntKind.u64.wrap x) % (n : Int) < n := Int.emod_lt_of_pos _ (by omega)
  rw [h3, IntWalk.wrap64_in _ (by omega)]
  exact ⟨((IntKind.u64.wrap x) % (n : Int)).toNat, by omega, by omega⟩

theorem LedAt.keptT {w w' : World} {bp B : Nat} {L : List (Int × List Slot)} {F : Nat → Prop} (h : LedAt w (.pointer (some ⟨bp, 0, none⟩)) B L) (hu : Upd F w w') (hB : ¬ F B) (hbp : ¬ F bp)
    (hF : ∀ k cur fz, w.heap[k]? = some (.cells cur 32 fz) → ¬ F k) : LedAt w' (.pointer (some ⟨bp, 0, none⟩)) B L := by
  obtain ⟨⟨bp', m, e, hne, hc, hm, hr⟩, hok, hap⟩ := h
  obtain rfl : bp = bp' := by simpa using e
  exact ⟨⟨bp, m, rfl, hne, upd_some hu hc hbp, hm.upd hu hB, hr.keptT hu hF⟩, hok, hap⟩

structure OSt (N : Nat) (w : World) (L : List (Int × List Slot)) (bs : Nat → List Int) (e : Int) : Prop where
  led : LedAt w (.pointer (some ⟨N + 1, 0, none⟩)) N L
  nx : ∃ c : Array Value, w.heap[N + 2]? = some (.cells c 26 (0, 0)) ∧ c.size = 4 ∧ ∀ p, p < 4 → c[p]? = some (.int .i64 (bs p).length)
  ba : ∃ (c : Array Value) (sv : Nat → Value), w.heap[N + 3]? = some (.cells c 28 (0, 0)) ∧ c.size = 4 ∧
    (∀ p, p < 4 → c[p]? = some (sv p) ∧ w.ownsRow (N + 4) 3 1 (sv p) (bs p).length ((bs p).map (Value.int .i64))) ∧
    ∀ p q, p < 4 → q < 4 → p ≠ q → (sv p).ownBlock = none ∨ (sv p).ownBlock ≠ (sv q).ownBlock
  size : N + 4 ≤ w.heap.size

/-- Nothing of it has changed, but for the ledger's map. -/
theorem OSt.step {N : Nat} {w w' : World} {L L' : List (Int × List Slot)} {bs : Nat → List Int} {e : Int} (h : OSt N w L bs e) (hu : Upd (fun k => k = N) w w')
    (hl : LedAt w' (.pointer (some ⟨N + 1, 0, none⟩)) N L') : OSt N w' L' bs e := by
  obtain ⟨_, ⟨c, h1, h2, h3⟩, ⟨c', sv, g1, g2, g3, g4⟩, hs⟩ := h
  have hg : w.grownBy w' (some N) := ⟨hu.os, hu.tape, hu.output, hu.size, fun k hk hne => hu.block k hk (fun e => hne (by rw [e]))⟩
  refine ⟨hl, ⟨c, ?_, h2, h3⟩, ⟨c', sv, ?_, g2, fun p hp => ⟨(g3 p hp).1, (g3 p hp).2.kept hg ?_⟩, g4⟩, Nat.le_trans hs hu.size⟩
  · rw [hu.block _ (by omega) (by omega)]; exact h1
  · rw [hu.block _ (by omega) (by omega)]; exact g1
  · cases hb : (sv p).ownBlock with
    | none => exact .inl rfl
    | some k => exact .inr (fun e => by have := ((g3 p hp).2.lt k hb).1; cases e; omega)

theorem OSt.below {N : Nat} {w w' : World} {L : List (Int × List Slot)} {bs : Nat → List Int} {e : Int} (h : OSt N w L bs e) (hb : Below w.heap.size w w') : OSt N w' L bs e :=
  h.step (.of_below hb) (h.led.below hb)

/-- One more batch of p has been written down: its base is appended to p's row (w6: behind the append), then the row and the number are stored. -/
theorem OSt.took {N : Nat} {w w6 : World} {L : List (Int × List Slot)} {bs : Nat → List Int} {e : Int} (h : OSt N w L bs e) {p : Nat} (hp : p < 4) {c : Array Value} {sv : Nat → Value} {g cap : Nat}
    (g1 : w.heap[N + 3]? = some (.cells c 28 (0, 0))) (g2 : c.size = 4)
    (g3 : ∀ p, p < 4 → c[p]? = some (sv p) ∧ w.ownsRow (N + 4) 3 1 (sv p) (bs p).length ((bs p).map (Value.int .i64)))
    (g4 : ∀ p q, p < 4 → q < 4 → p ≠ q → (sv p).ownBlock = none ∨ (sv p).ownBlock ≠ (sv q).ownBlock) {O : Obj}
    (hown : w6.ownsRow (N + 4) 3 1 (.slice (some ⟨g, 0, none⟩) ((bs p).length + 1) cap) ((bs p).length + 1) ((bs p).map (Value.int .i64) ++ [.int .i64 e])) (hgrow : (w.alloc O).grownBy w6 (sv p).ownBlock)
    (hat : (sv p).ownBlock = some g ∨ g = w.heap.size + 1) :
    OSt N ((w6.setCell ⟨N + 3, p, none⟩ (.slice (some ⟨g, 0, none⟩) ((bs p).length + 1) cap)).setCell ⟨N + 2, p, none⟩ (.int .i64 ((bs p).length + 1))) L (updf bs p (bs p ++ [e])) (e + 1) := by
  obtain ⟨hl, ⟨cn, n1, n2, n3⟩, -, hs⟩ := h
  generalize hv : Value.slice (some ⟨g, 0, none⟩) ((bs p).length + 1) cap = v' at *
  have hvo : v'.ownBlock = some g := by rw [← hv]; rfl
  have hpo : ∀ k, (sv p).ownBlock = some k → N + 4 ≤ k ∧ k < w.heap.size := fun k e => (g3 p hp).2.lt k e
  have hu6 : Upd (fun k => k = N + 2 ∨ k = N + 3 ∨ some k = (sv p).ownBlock) w w6 :=
    (upd_alloc _ w O).trans ⟨hgrow.os, hgrow.tape, hgrow.output, hgrow.size, fun k hk hne => hgrow.block k hk (fun e => hne (.inr (.inr e)))⟩
  have hu := upd_setCell (upd_setCell hu6 (o := p) (b := N + 3) (.inr (.inl rfl)) v') (o := p) (b := N + 2) (.inl rfl) (.int .i64 ((bs p).length + 1))
  have k2 : w6.heap[N + 2]? = some (.cells cn 26 (0, 0)) := by
    rw [hgrow.block _ (by simp; omega) (fun e => by have := hpo _ e.symm; omega), Below.heap_alloc _ _ _ (by omega)]; exact n1
  have k3 : w6.heap[N + 3]? = some (.cells c 28 (0, 0)) := by
    rw [hgrow.block _ (by simp; omega) (fun e => by have := hpo _ e.symm; omega), Below.heap_alloc _ _ _ (by omega)]; exact g1
  refine ⟨hl.keptT hu ?_ ?_ ?_, ⟨_, setCell_same ((Below.heap_setCell _ _ _ _ (by show N + 2 ≠ N + 3; omega)).trans k2), by simp [n2], ?_⟩,
    ⟨c.setIfInBounds p v', fun q => if q = p then v' else sv q, ?_, by simp [g2], ?_, ?_⟩, Nat.le_trans hs hu.size⟩
  · rintro (h | h | h)
    · omega
    · omega
    · have := hpo _ h.symm; omega
  · rintro (h | h | h)
    · omega
    · omega
    · have := hpo _ h.symm; omega
  · intro k cur fz hb
    rintro (rfl | rfl | h)
    · rw [n1] at hb; simp at hb
    · rw [g1] at hb; simp at hb
    · rcases (g3 p hp).2.2 with ⟨e, _⟩ | ⟨g', cap', cur', e, _, hg, _⟩
      · rw [e] at h; simp [Value.ownBlock] at h
      · rw [e] at h
        simp only [Value.ownBlock, Option.some.injEq] at h
        subst h
        rw [hg] at hb; simp at hb
  · intro q hq
    by_cases e1 : q = p
    · subst e1; simp [updf, n2, hq]
    · simp only [updf, e1, if_false]
      rw [Array.getElem?_setIfInBounds_ne (Ne.symm e1)]
      exact n3 q hq
  · rw [Below.heap_setCell _ _ _ _ (by show N + 3 ≠ N + 2; omega)]
    exact setCell_same k3
  · intro q hq
    by_cases e1 : q = p
    · subst e1
      refine ⟨by simp [g2, hq], ?_⟩
      have := ownsRow_setCell_below (ownsRow_setCell_below hown (a := ⟨N + 3, q, none⟩) (by show N + 3 < N + 4; omega) v') (a := ⟨N + 2, q, none⟩) (by show N + 2 < N + 4; omega) (.int .i64 ((bs q).length + 1))
      simpa [updf] using this
    · simp only [updf, e1, if_false]
      refine ⟨by rw [Array.getElem?_setIfInBounds_ne (Ne.symm e1)]; exact (g3 q hq).1, ?_⟩
      refine ownsRow_setCell_below (ownsRow_setCell_below (((g3 q hq).2.alloc O).kept hgrow (g4 q p hq hp e1)) (by show N + 3 < N + 4; omega) v') (by show N + 2 < N + 4; omega) _
  · intro q r hq hr hne
    by_cases e1 : q = p
    · subst e1
      have e2 : ¬ r = q := fun e => hne e.symm
      simp only [if_true, e2, if_false]
      right
      rw [hvo]
      rcases hat with h | h
      · rcases g4 q r hq hr hne with h2 | h2
        · rw [h] at h2; cases h2
        · rw [← h]; exact h2
      · intro e; have := ((g3 r hr).2.lt g e.symm).2; omega
    · by_cases e2 : r = p
      · subst e2
        simp only [e1, if_false, if_true]
        cases hb : (sv q).ownBlock with
        | none => exact .inl rfl
        | some k =>
          right
          rw [hvo]
          rcases hat with h | h
          · rcases g4 q r hq hr hne with h2 | h2
            · rw [hb] at h2; cases h2
            · rw [hb, h] at h2; exact h2
          · intro e; have := ((g3 q hq).2.lt k hb).2; cases e; omega
      · simp only [e1, e2, if_false]
        exact g4 q r hq hr hne

theorem frozen_of_row {w : World} {b o : Nat} {c : Array Value} {T : TypeId} (h : w.heap[b]? = some (.cells c T (0, 0))) : w.frozen? ⟨b, o, none⟩ = false := by
  simp [World.frozen?, h]

/-- The two cells that are written behind the append. -/
theorem took_facts {N : Nat} {w w6 : World} {bs : Nat → List Int} {p : Nat} (hp : p < 4) {c cn : Array Value} {sv : Nat → Value} {O : Obj}
    (n1 : w.heap[N + 2]? = some (.cells cn 26 (0, 0))) (n3 : ∀ p, p < 4 → cn[p]? = some (.int .i64 (bs p).length))
    (g1 : w.heap[N + 3]? = some (.cells c 28 (0, 0)))
    (g3 : ∀ p, p < 4 → c[p]? = some (sv p) ∧ w.ownsRow (N + 4) 3 1 (sv p) (bs p).length ((bs p).map (Value.int .i64)))
    (hgrow : (w.alloc O).grownBy w6 (sv p).ownBlock) :
    w6.cell? ⟨N + 3, p, none⟩ = some (sv p) ∧ w6.frozen? ⟨N + 3, p, none⟩ = false ∧ (∀ V, (w6.setCell ⟨N + 3, p, none⟩ V).cell? ⟨N + 2, p, none⟩ = some (.int .i64 (bs p).length)) ∧ w6.frozen? ⟨N + 2, p, none⟩ = false := by
  have hpo : ∀ k, (sv p).ownBlock = some k → N + 4 ≤ k ∧ k < w.heap.size := fun k e => (g3 p hp).2.lt k e
  have h2 := (Array.getElem?_eq_some_iff.1 n1).1
  have h3 := (Array.getElem?_eq_some_iff.1 g1).1
  have k2 : w6.heap[N + 2]? = some (.cells cn 26 (0, 0)) := by
    rw [hgrow.block _ (by simp; omega) (fun e => by have := hpo _ e.symm; omega), Below.heap_alloc _ _ _ (by omega)]; exact n1
  have k3 : w6.heap[N + 3]? = some (.cells c 28 (0, 0)) := by
    rw [hgrow.block _ (by simp; omega) (fun e => by have := hpo _ e.symm; omega), Below.heap_alloc _ _ _ (by omega)]; exact g1
  refine ⟨by rw [cell_of_row w6 _ p c _ _ k3]; exact (g3 p hp).1, frozen_of_row k3, fun V => ?_, frozen_of_row k2⟩
  have : (w6.setCell ⟨N + 3, p, none⟩ V).heap[N + 2]? = some (.cells cn 26 (0, 0)) := (Below.heap_setCell _ _ _ _ (by show N + 2 ≠ N + 3; omega)).trans k2
  rw [cell_of_row _ _ p cn _ _ this]; exact n3 p hp

theorem OSt.start (w : World) : OSt w.heap.size ((((w.alloc (.map #[] 0)).alloc (.cells #[.map (some w.heap.size)] 62)).alloc (.cells #[.int .i64 0, .int .i64 0, .int .i64 0, .int .i64 0] 26)).alloc
    (.cells #[.slice none 0 0, .slice none 0 0, .slice none 0 0, .slice none 0 0] 28)) [] (fun _ => []) 0 := by
  have hl := (LedAt.fresh w).below (below_alloc2 ((w.alloc (.map #[] 0)).alloc (.cells #[.map (some w.heap.size)] 62)) (.cells #[.int .i64 0, .int .i64 0, .int .i64 0, .int .i64 0] 26)
    (.cells #[.slice none 0 0, .slice none 0 0, .slice none 0 0, .slice none 0 0] 28))
  refine ⟨hl, ⟨#[.int .i64 0, .int .i64 0, .int .i64 0, .int .i64 0], ?_, rfl, ?_⟩, ⟨#[.slice none 0 0, .slice none 0 0, .slice none 0 0, .slice none 0 0], fun _ => .slice none 0 0, ?_, rfl, ?_, ?_⟩, by simp⟩
  · rw [Below.heap_alloc _ _ _ (by simp)]
    have := heap_alloc_new ((w.alloc (.map #[] 0)).alloc (.cells #[.map (some w.heap.size)] 62)) (.cells #[.int .i64 0, .int .i64 0, .int .i64 0, .int .i64 0] 26)
    simpa using this
  · intro p hp
    match p, hp with
    | 0, _ => rfl
    | 1, _ => rfl
    | 2, _ => rfl
    | 3, _ => rfl
    | n + 4, h => omega
  · have := heap_alloc_new (((w.alloc (.map #[] 0)).alloc (.cells #[.map (some w.heap.size)] 62)).alloc (.cells #[.int .i64 0, .int .i64 0, .int .i64 0, .int .i64 0] 26)) (.cells #[.slice none 0 0, .slice none 0 0, .slice none 0 0, .slice none 0 0] 28)
    simpa using this
  · intro p hp
    refine ⟨?_, World.ownsRow_nil _ _ _ _⟩
    match p, hp with
    | 0, _ => rfl
    | 1, _ => rfl
    | 2, _ => rfl
    | 3, _ => rfl
    | n + 4, h => omega
  · intro p q _ _ _
    exact .inl rfl
end Go.Proofs.Ytcgjhifcocmdaaa
