/- A plan behind a pointer, all of it the call's own: what its writes do. -/
import Derived.Test.YtcpaaleogmiamaaGreatDoorMs44
namespace Go.Proofs.YtcpaaleogmiamaaGreatDoor
open Go.RowKit

/-- A plan behind a pointer, all of its words the call's own. -/
structure PlanOwn (w : World) (N pb : Nat) (p : Pl) (pa : Option Addr) (pc : Nat) (la : Option Addr) (lc : Nat) (m : List (Value × Pt)) : Prop where
  blk : w.heap[pb]? = some (.cells #[.int .i64 p.nodes, .int .i64 p.copies, .slice pa p.parts.length pc, .slice la p.lives.length lc] 52 (0, 0))
  parts : OwnP w N (.slice pa p.parts.length pc) m
  eq : m.map (·.2) = p.parts
  lives : w.ownsRow N 134 2 (.slice la p.lives.length lc) p.lives.length (lifeCells p.lives)
  low : N ≤ pb

theorem PlanOwn.lt {w : World} {N pb : Nat} {p : Pl} {pa : Option Addr} {pc : Nat} {la : Option Addr} {lc : Nat} {m : List (Value × Pt)} (h : PlanOwn w N pb p pa pc la lc m) : pb < w.heap.size := (Array.getElem?_eq_some_iff.1 h.blk).1
theorem PlanOwn.len {w : World} {N pb : Nat} {p : Pl} {pa : Option Addr} {pc : Nat} {la : Option Addr} {lc : Nat} {m : List (Value × Pt)} (h : PlanOwn w N pb p pa pc la lc m) : m.length = p.parts.length := by rw [← h.eq]; simp

theorem PlanOwn.below {w w' : World} {N pb : Nat} {p : Pl} {pa : Option Addr} {pc : Nat} {la : Option Addr} {lc : Nat} {m : List (Value × Pt)} (h : PlanOwn w N pb p pa pc la lc m) (hb : Below w.heap.size w w') : PlanOwn w' N pb p pa pc la lc m :=
  ⟨(hb.block _ h.lt).trans h.blk, h.parts.below hb, h.eq, owns_upd h.lives (Upd.of_below (F := fun _ => False) hb) (fun _ _ h => h), h.low⟩

theorem PlanOwn.rd {w : World} {N pb : Nat} {p : Pl} {pa : Option Addr} {pc : Nat} {la : Option Addr} {lc : Nat} {m : List (Value × Pt)} (h : PlanOwn w N pb p pa pc la lc m) : PlanRd w (planV p pa pc la lc) p :=
  ⟨_, _, rfl, by have := h.parts.rd; rw [h.eq] at this; exact this, LivesRd.of_owns h.lives⟩

theorem block_ne {w : World} {a b : Nat} {cs cs' : Array Value} {T T' : TypeId} {f f' : Nat × Nat} (h : w.heap[a]? = some (.cells cs T f)) (h' : w.heap[b]? = some (.cells cs' T' f')) (hne : T ≠ T') : a ≠ b := by
  intro e
  subst e
  rw [h] at h'
  simp at h'
  exact hne h'.2.1

theorem owns_block {w : World} {N e size : Nat} {v : Value} {n : Nat} {xs : List Value} (h : w.ownsRow N e size v n xs) : ∀ g, v.ownBlock = some g → ∃ cur, w.heap[g]? = some (.cells cur e (0, 0)) := by
  intro g hg
  rcases h.2 with ⟨rfl, _⟩ | ⟨g1, cap, cur, rfl, _, h3, _⟩
  · cases hg
  · simp only [Value.ownBlock, Option.some.injEq] at hg
    subst hg
    exact ⟨cur, h3⟩

theorem lifeCells_set (L : List (Int × Int)) : ∀ (k : Nat) (_ : k < L.length) (x : Int × Int), ((lifeCells L).set (k * 2) (.int .i64 x.1)).set (k * 2 + 1) (.int .i64 x.2) = lifeCells (L.set k x) := by
  induction L with
  | nil => intro k hk; exact absurd hk (Nat.not_lt_zero k)
  | cons y L ih =>
    intro k hk x
    have hc : ∀ (y : Int × Int) (L : List (Int × Int)), lifeCells (y :: L) = .int .i64 y.1 :: .int .i64 y.2 :: lifeCells L := fun _ _ => rfl
    cases k with
    | zero => simp [hc]
    | succ k =>
      have := ih k (by simpa using hk) x
      have e : (k + 1) * 2 = k * 2 + 2 := by omega
      simp only [hc, e, List.set_cons_succ]
      rw [this]

theorem PlanOwn.setLives {w w' : World} {N pb : Nat} {p : Pl} {pa : Option Addr} {pc : Nat} {la la' : Option Addr} {lc lc' : Nat} {m : List (Value × Pt)} (h : PlanOwn w N pb p pa pc la lc m) {F : Nat → Prop} (hu : Upd F w w') {L : List (Int × Int)}
    (hF : ∀ k, F k → ∃ cur, w.heap[k]? = some (.cells cur 134 (0, 0)))
    (hl : w'.ownsRow N 134 2 (.slice la' L.length lc') L.length (lifeCells L)) : PlanOwn (w'.setCell ⟨pb, 3, none⟩ (.slice la' L.length lc')) N pb ⟨p.nodes, p.copies, p.parts, L⟩ pa pc la' lc' m := by
  have hs := upd_set1 w' pb 3 (.slice la' L.length lc')
  have hne : ∀ {k T cur}, w.heap[k]? = some (.cells cur T (0, 0)) → T ≠ 134 → ¬ F k := by
    intro k T cur hk hT hf
    obtain ⟨c, hc⟩ := hF k hf
    rw [hk] at hc
    simp at hc
    exact hT hc.2
  have hb := (hu.block _ h.lt (hne h.blk (by decide))).trans h.blk
  have hp2 : OwnP w' N (.slice pa p.parts.length pc) m := h.parts.upd hu (fun g hg => by obtain ⟨c, hc⟩ := owns_block h.parts.own g hg; exact hne hc (by decide)) (fun i hi hk g hg => by obtain ⟨c, hc⟩ := owns_block (h.parts.chain i hi hk) g hg; exact hne hc (by decide))
  refine ⟨setCell_same hb, hp2.upd hs (fun g hg e => ?_) (fun i hi hk g hg e => ?_), h.eq, owns_upd hl hs (fun g hg e => ?_), h.low⟩
  · obtain ⟨c, hc⟩ := owns_block hp2.own g hg; exact block_ne hc hb (by decide) e
  · obtain ⟨c, hc⟩ := owns_block (hp2.chain i hi hk) g hg; exact block_ne hc hb (by decide) e
  · obtain ⟨c, hc⟩ := owns_block hl g hg; exact block_ne hc hb (by decide) e

theorem PlanOwn.setLife {w : World} {N pb g : Nat} {p : Pl} {pa : Option Addr} {pc : Nat} {lc : Nat} {m : List (Value × Pt)} (h : PlanOwn w N pb p pa pc (some ⟨g, 0, none⟩) lc m) (k : Nat) (hk : k < p.lives.length) (x : Int × Int) :
    PlanOwn ((w.setCell ⟨g, k * 2, none⟩ (.int .i64 x.1)).setCell ⟨g, k * 2 + 1, none⟩ (.int .i64 x.2)) N pb ⟨p.nodes, p.copies, p.parts, p.lives.set k x⟩ pa pc (some ⟨g, 0, none⟩) lc m := by
  have hs := (upd_set1 w g (k * 2) (.int .i64 x.1)).trans (upd_set1 _ g (k * 2 + 1) (.int .i64 x.2))
  obtain ⟨c0, hg0⟩ := owns_block h.lives g rfl
  have hl := ((h.lives.stored (k * 2) (.int .i64 x.1)).1.stored (k * 2 + 1) (.int .i64 x.2)).1
  rw [lifeCells_set _ _ hk] at hl
  refine ⟨?_, h.parts.upd hs (fun g' hg e => ?_) (fun i hi hk g' hg e => ?_), h.eq, by simpa using hl, h.low⟩
  · rw [hs.block _ h.lt (fun e => block_ne h.blk hg0 (by decide) e)]
    simpa using h.blk
  · obtain ⟨c, hc⟩ := owns_block h.parts.own g' hg; exact block_ne hc hg0 (by decide) e
  · obtain ⟨c, hc⟩ := owns_block (h.parts.chain i hi hk) g' hg; exact block_ne hc hg0 (by decide) e

theorem OwnK.len_get {m : List (Value × Pt)} {P : List Pt} (h : m.map (·.2) = P) {j : Nat} (hj : j < m.length) (hj' : j < P.length) : m[j].2 = P[j] := by subst h; simp

/-- The chains' blocks lie below B. -/
def Blks (m : List (Value × Pt)) (B : Nat) : Prop := ∀ x ∈ m, ∀ k, x.1.ownBlock = some k → k < B

theorem Blks.set {m : List (Value × Pt)} {B j : Nat} (h : Blks m B) (_hj : j < m.length) {x : Value × Pt} (hx : ∀ k, x.1.ownBlock = some k → k < B) : Blks (m.set j x) B := by
  intro y hy k hk
  rcases List.mem_or_eq_of_mem_set hy with h2 | rfl
  · exact h y h2 k hk
  · exact hx k hk

/-- A part's learner is written. -/
theorem PlanOwn.setLearner {w : World} {N pb g : Nat} {p : Pl} {pc : Nat} {la : Option Addr} {lc : Nat} {m : List (Value × Pt)} (h : PlanOwn w N pb p (some ⟨g, 0, none⟩) pc la lc m) (j : Nat) (hj : j < p.parts.length) (e : Int) :
    ∃ m', PlanOwn (w.setCell ⟨g, j * 3 + 2, none⟩ (.int .i64 e)) N pb ⟨p.nodes, p.copies, p.parts.set j ⟨p.parts[j].epoch, p.parts[j].chain, e⟩, p.lives⟩ (some ⟨g, 0, none⟩) pc la lc m' ∧ ∀ B, Blks m B → Blks m' B := by
  have hjm : j < m.length := by rw [h.len]; exact hj
  have hs := upd_set1 w g (j * 3 + 2) (.int .i64 e)
  obtain ⟨cp, hgp⟩ := owns_block h.parts.own g rfl
  refine ⟨m.set j (m[j].1, ⟨m[j].2.epoch, m[j].2.chain, e⟩), ⟨?_, ?_, ?_, ?_, h.low⟩, fun B hB => hB.set hjm (fun k hk => hB _ (List.getElem_mem hjm) k hk)⟩
  · rw [hs.block _ h.lt (fun e => block_ne h.blk hgp (by decide) e)]
    simpa using h.blk
  · have := h.parts.setLearner h.len.symm j hjm e
    rw [List.length_set]
    show OwnK _ _ _ _ _
    rw [List.length_set]
    exact this
  · rw [List.map_set, h.eq, OwnK.len_get h.eq hjm hj]
  · exact owns_upd h.lives hs (fun g' hg e => by obtain ⟨c, hc⟩ := owns_block h.lives g' hg; exact block_ne hc hgp (by decide) e)

/-- A part's epoch is written. -/
theorem PlanOwn.setEpoch {w : World} {N pb g : Nat} {p : Pl} {pc : Nat} {la : Option Addr} {lc : Nat} {m : List (Value × Pt)} (h : PlanOwn w N pb p (some ⟨g, 0, none⟩) pc la lc m) (j : Nat) (hj : j < p.parts.length) (e : Int) :
    ∃ m', PlanOwn (w.setCell ⟨g, j * 3, none⟩ (.int .i64 e)) N pb ⟨p.nodes, p.copies, p.parts.set j ⟨e, p.parts[j].chain, p.parts[j].learner⟩, p.lives⟩ (some ⟨g, 0, none⟩) pc la lc m' ∧ ∀ B, Blks m B → Blks m' B := by
  have hjm : j < m.length := by rw [h.len]; exact hj
  have hs := upd_set1 w g (j * 3) (.int .i64 e)
  obtain ⟨cp, hgp⟩ := owns_block h.parts.own g rfl
  refine ⟨m.set j (m[j].1, ⟨e, m[j].2.chain, m[j].2.learner⟩), ⟨?_, ?_, ?_, ?_, h.low⟩, fun B hB => hB.set hjm (fun k hk => hB _ (List.getElem_mem hjm) k hk)⟩
  · rw [hs.block _ h.lt (fun e => block_ne h.blk hgp (by decide) e)]
    simpa using h.blk
  · have := h.parts.setEpoch h.len.symm j hjm e
    rw [List.length_set]
    show OwnK _ _ _ _ _
    rw [List.length_set]
    exact this
  · rw [List.map_set, h.eq, OwnK.len_get h.eq hjm hj]
  · exact owns_upd h.lives hs (fun g' hg e => by obtain ⟨c, hc⟩ := owns_block h.lives g' hg; exact block_ne hc hgp (by decide) e)

/-- A part gets another chain: in its old block, or in a new one. -/
theorem PlanOwn.newChain {w w' : World} {F : Nat → Prop} {N pb g : Nat} {p : Pl} {pc : Nat} {la : Option Addr} {lc : Nat} {m : List (Value × Pt)} (h : PlanOwn w N pb p (some ⟨g, 0, none⟩) pc la lc m) (j : Nat) (hj : j < p.parts.length) (hjm : j < m.length)
    (hu : Upd F w w') (hF : ∀ k, F k → m[j].1.ownBlock = some k) {cv : Value} {l : List Int} (hc : w'.ownsRow N 3 1 cv l.length (intCells l)) (hb : ∀ k, cv.ownBlock = some k → m[j].1.ownBlock = some k ∨ w.heap.size ≤ k) :
    ∃ m', PlanOwn (w'.setCell ⟨g, j * 3 + 1, none⟩ cv) N pb ⟨p.nodes, p.copies, p.parts.set j ⟨p.parts[j].epoch, l, p.parts[j].learner⟩, p.lives⟩ (some ⟨g, 0, none⟩) pc la lc m' ∧ ∀ B, Blks m B → (∀ k, cv.ownBlock = some k → k < B) → Blks m' B := by
  have hs := upd_set1 w' g (j * 3 + 1) cv
  have hcj := h.parts.chain j hjm hjm
  obtain ⟨cp, hgp⟩ := owns_block h.parts.own g rfl
  have hne : ∀ {k T cur}, w.heap[k]? = some (.cells cur T (0, 0)) → T ≠ 3 → ¬ F k := by
    intro k T cur hk hT hf
    obtain ⟨c, hc⟩ := owns_block hcj k (hF k hf)
    rw [hk] at hc
    simp at hc
    exact hT hc.2
  have hgw : g < w.heap.size := (owns_lt h.parts.own g rfl).2
  have hgp' := (hu.block g hgw (hne hgp (by decide))).trans hgp
  have hbp := (hu.block pb h.lt (hne h.blk (by decide))).trans h.blk
  have hown' := owns_upd h.parts.own hu (fun k hk => by obtain ⟨c, hc⟩ := owns_block h.parts.own k hk; exact hne hc (by decide))
  have hlv := owns_upd h.lives hu (fun k hk => by obtain ⟨c, hc⟩ := owns_block h.lives k hk; exact hne hc (by decide))
  have hml := h.len
  refine ⟨m.set j (cv, ⟨m[j].2.epoch, l, m[j].2.learner⟩), ⟨?_, ⟨?_, ?_, ?_⟩, ?_, ?_, h.low⟩, fun B hB hx => hB.set hjm hx⟩
  · rw [hs.block _ (by have := hu.size; have := h.lt; omega) (fun e => block_ne h.blk hgp (by decide) e)]
    simpa using hbp
  · rw [hml] at hown'
    have := (hown'.stored (j * 3 + 1) cv).1
    rw [(partCells_set m j hjm cv ⟨m[j].2.epoch, l, m[j].2.learner⟩).2.1 rfl rfl] at this
    simpa [hml] using this
  · intro i hi _
    simp only [List.getElem_set]
    by_cases he : j = i
    · subst he
      simp only [if_true]
      exact owns_upd hc hs (fun g' hg e => by obtain ⟨c, hc2⟩ := owns_block hc g' hg; exact block_ne hc2 hgp' (by decide) e)
    · simp only [if_neg he]
      have hi' : i < m.length := by simpa using hi
      have hc' := owns_upd (h.parts.chain i hi' hi') hu (fun g' hg hf => h.parts.apart i j hi' hjm hi' hjm (fun e => he e.symm) g' hg (hF g' hf))
      exact owns_upd hc' hs (fun g' hg e => by obtain ⟨c, hc2⟩ := owns_block hc' g' hg; exact block_ne hc2 hgp' (by decide) e)
  · intro i i' hi hi' _ _ hne' g' hg
    have q1 : i < m.length := by simpa using hi
    have q2 : i' < m.length := by simpa using hi'
    have hfar : ∀ t (ht : t < m.length), t ≠ j → ∀ k, m[t].1.ownBlock = some k → cv.ownBlock ≠ some k := by
      intro t ht htj k hk hk2
      rcases hb k hk2 with h3 | h3
      · exact h.parts.apart t j ht hjm ht hjm htj k hk h3
      · have := (owns_lt (h.parts.chain t ht ht) k hk).2; omega
    simp only [List.getElem_set] at hg ⊢
    by_cases he : j = i
    · subst he
      simp only [if_true] at hg
      rw [if_neg hne']
      intro hg'
      exact hfar i' q2 (fun e => hne' e.symm) g' hg' hg
    · rw [if_neg he] at hg
      by_cases he' : j = i'
      · subst he'
        simp only [if_true]
        exact hfar i q1 hne' g' hg
      · rw [if_neg he']
        exact h.parts.apart i i' q1 q2 q1 q2 hne' g' hg
  · rw [List.map_set, h.eq, OwnK.len_get h.eq hjm hj]
  · exact owns_upd hlv hs (fun g' hg e => by obtain ⟨c, hc⟩ := owns_block hlv g' hg; exact block_ne hc hgp' (by decide) e)

/-- The plan gets another row of parts. -/
theorem PlanOwn.setParts {w w' : World} {F : Nat → Prop} {N pb : Nat} {p : Pl} {pa pa' : Option Addr} {pc pc' : Nat} {la : Option Addr} {lc : Nat} {m m' : List (Value × Pt)} (h : PlanOwn w N pb p pa pc la lc m) (hu : Upd F w w')
    (hF : ∀ k, F k → ∃ cur, w.heap[k]? = some (.cells cur 36 (0, 0))) {P : List Pt} (hm : m'.map (·.2) = P)
    (hl : OwnP w' N (.slice pa' P.length pc') m') : PlanOwn (w'.setCell ⟨pb, 2, none⟩ (.slice pa' P.length pc')) N pb ⟨p.nodes, p.copies, P, p.lives⟩ pa' pc' la lc m' := by
  have hs := upd_set1 w' pb 2 (.slice pa' P.length pc')
  have hne : ∀ {k T cur}, w.heap[k]? = some (.cells cur T (0, 0)) → T ≠ 36 → ¬ F k := by
    intro k T cur hk hT hf
    obtain ⟨c, hc⟩ := hF k hf
    rw [hk] at hc
    simp at hc
    exact hT hc.2
  have hb := (hu.block _ h.lt (hne h.blk (by decide))).trans h.blk
  have hlv := owns_upd h.lives hu (fun k hk => by obtain ⟨c, hc⟩ := owns_block h.lives k hk; exact hne hc (by decide))
  refine ⟨setCell_same hb, hl.upd hs (fun g hg e => ?_) (fun i hi hk g hg e => ?_), hm, owns_upd hlv hs (fun g hg e => ?_), h.low⟩
  · obtain ⟨c, hc⟩ := owns_block hl.own g hg; exact block_ne hc hb (by decide) e
  · obtain ⟨c, hc⟩ := owns_block (hl.chain i hi hk) g hg; exact block_ne hc hb (by decide) e
  · obtain ⟨c, hc⟩ := owns_block hlv g hg; exact block_ne hc hb (by decide) e

/-- What is written far above leaves the plan. -/
theorem PlanOwn.high {w w' : World} {F : Nat → Prop} {N B pb : Nat} {p : Pl} {pa : Option Addr} {pc : Nat} {la : Option Addr} {lc : Nat} {m : List (Value × Pt)} (h : PlanOwn w N pb p pa pc la lc m) (hB : Blks m B) (hpb : pb < B) (hu : Upd F w w')
    (hF : ∀ k, F k → B ≤ k ∧ ∃ cur, w.heap[k]? = some (.cells cur 3 (0, 0))) : PlanOwn w' N pb p pa pc la lc m := by
  have hne : ∀ {k T cur}, w.heap[k]? = some (.cells cur T (0, 0)) → T ≠ 3 → ¬ F k := by
    intro k T cur hk hT hf
    obtain ⟨-, c, hc⟩ := hF k hf
    rw [hk] at hc
    simp at hc
    exact hT hc.2
  refine ⟨(hu.block _ h.lt (fun hf => by have := (hF _ hf).1; omega)).trans h.blk, h.parts.upd hu (fun g hg => ?_) (fun i hi _ g hg hf => ?_), h.eq, owns_upd h.lives hu (fun g hg => ?_), h.low⟩
  · obtain ⟨c, hc⟩ := owns_block h.parts.own g hg; exact hne hc (by decide)
  · have := hB _ (List.getElem_mem hi) g hg
    have := (hF g hf).1
    omega
  · obtain ⟨c, hc⟩ := owns_block h.lives g hg; exact hne hc (by decide)
end Go.Proofs.YtcpaaleogmiamaaGreatDoor
