/- A plan behind a pointer, all of it the call's own: what its writes do. -/
/- A plan whose words lie above a mark: it is read whatever is written below. -/
/- The walk of plan.New. -/
import Derived.Test.YtcpaaleogmiamaaGreatDoorMp45
namespace Go.Proofs.YtcpaaleogmiamaaGreatDoor
open Go.RowKit

/-- A plan behind a pointer, all of its words the call's own. -/
structure PlanOwn (w : World) (N pb : Nat) (p : Pl) (pa : Option Addr) (pc : Nat) (la : Option Addr) (lc : Nat) (m : List (Value × Pt)) : Prop where
  blk : w.heap[pb]? = some (.cells #[.int .i64 p.nodes, .int .i64 p.copies, .slice pa p.parts.length pc, .slice la p.lives.length lc] 52 (0, 0))
  parts : OwnP w N (.slice pa p.parts.length pc) m
  eq : m.map (·.2) = p.parts
  lives : w.ownsRow N 134 2 (.slice la p.lives.length lc) p.lives.length (lifeCells p.lives)
  low : N ≤ pb

theorem PlanOwn.lt {w : World} {N pb : Nat} {p : Pl} {pa : Option Addr} {pc : Nat} {la : Option Addr} {lc : Nat} {m : List (Value × Pt)} (h : PlanOwn w N pb p pa pc la lc m) : pb < w.heap.size := (Array.getElem?_eq_some_iff.1 h.blk).1
theorem PlanOwn.len {w : World} {N pb : Nat} {p : Pl} {pa : Option Addr} {pc : Nat} {la : Option Addr} {lc : Nat} {m : List (Value × Pt)} (h : PlanOwn w N pb p pa pc la lc m) : m.length = p.parts.length := by rw [← h.eq]; simp

theorem PlanOwn.below {w w' : World} {N pb : Nat} {p : Pl} {pa : Option Addr} {pc : Nat} {la : Option Addr} {lc : Nat} {m : List (Value × Pt)} (h : PlanOwn w N pb p pa pc la lc m) (hb : Below w.heap.size w w') : PlanOwn w' N pb p pa pc la lc m :=
  ⟨(hb.block _ h.lt).trans h.blk, h.parts.below hb, h.eq, owns_upd h.lives (Upd.of_below (F := fun _ => False) hb) (fun _ _ h => h), h.low⟩

theorem PlanOwn.rd {w : World} {N pb : Nat} {p : Pl} {pa : Option Addr} {pc : Nat} {la : Option Addr} {lc : Nat} {m : List (Value × Pt)} (h : PlanOwn w N pb p pa pc la lc m) : PlanRd w (planV p pa pc la lc) p :=
  ⟨_, _, rfl, by have := h.parts.rd; rw [h.eq] at this; exact this, LivesRd.of_owns h.lives⟩

theorem block_ne {w : World} {a b : Nat} {cs cs' : Array Value} {T T' : TypeId} {f f' : Nat × Nat} (h : w.heap[a]? = some (.cells cs T f)) (h' : w.heap[b]? = some (.cells cs' T' f')) (hne : T ≠ T') : a ≠ b := by
  intro e
  subst e
  rw [h] at h'
  simp at h'
  exact hne h'.2.1

theorem owns_block {w : World} {N e size : Nat} {v : Value} {n : Nat} {xs : List Value} (h : w.ownsRow N e size v n xs) : ∀ g, v.ownBlock = some g → ∃ cur, w.heap[g]? = some (.cells cur e (0, 0)) := by
  intro g hg
  rcases h.2 with ⟨rfl, _⟩ | ⟨g1, cap, cur, rfl, _, h3, _⟩
  · cases hg
  · simp only [Value.ownBlock, Option.some.injEq] at hg
    subst hg
    exact ⟨cur, h3⟩

theorem lifeCells_set (L : List (Int × Int)) : ∀ (k : Nat) (_ : k < L.length) (x : Int × Int), ((lifeCells L).set (k * 2) (.int .i64 x.1)).set (k * 2 + 1) (.int .i64 x.2) = lifeCells (L.set k x) := by
  induction L with
  | nil => intro k hk; exact absurd hk (Nat.not_lt_zero k)
  | cons y L ih =>
    intro k hk x
    have hc : ∀ (y : Int × Int) (L : List (Int × Int)), lifeCells (y :: L) = .int .i64 y.1 :: .int .i64 y.2 :: lifeCells L := fun _ _ => rfl
    cases k with
    | zero => simp [hc]
    | succ k =>
      have := ih k (by simpa using hk) x
      have e : (k + 1) * 2 = k * 2 + 2 := by omega
      simp only [hc, e, List.set_cons_succ]
      rw [this]

theorem PlanOwn.setLives {w w' : World} {N pb : Nat} {p : Pl} {pa : Option Addr} {pc : Nat} {la la' : Option Addr} {lc lc' : Nat} {m : List (Value × Pt)} (h : PlanOwn w N pb p pa pc la lc m) {F : Nat → Prop} (hu : Upd F w w') {L : List (Int × Int)}
    (hF : ∀ k, F k → ∃ cur, w.heap[k]? = some (.cells cur 134 (0, 0)))
    (hl : w'.ownsRow N 134 2 (.slice la' L.length lc') L.length (lifeCells L)) : PlanOwn (w'.setCell ⟨pb, 3, none⟩ (.slice la' L.length lc')) N pb ⟨p.nodes, p.copies, p.parts, L⟩ pa pc la' lc' m := by
  have hs := upd_set1 w' pb 3 (.slice la' L.length lc')
  have hne : ∀ {k T cur}, w.heap[k]? = some (.cells cur T (0, 0)) → T ≠ 134 → ¬ F k := by
    intro k T cur hk hT hf
    obtain ⟨c, hc⟩ := hF k hf
    rw [hk] at hc
    simp at hc
    exact hT hc.2
  have hb := (hu.block _ h.lt (hne h.blk (by decide))).trans h.blk
  have hp2 : OwnP w' N (.slice pa p.parts.length pc) m := h.parts.upd hu (fun g hg => by obtain ⟨c, hc⟩ := owns_block h.parts.own g hg; exact hne hc (by decide)) (fun i hi hk g hg => by obtain ⟨c, hc⟩ := owns_block (h.parts.chain i hi hk) g hg; exact hne hc (by decide))
  refine ⟨setCell_same hb, hp2.upd hs (fun g hg e => ?_) (fun i hi hk g hg e => ?_), h.eq, owns_upd hl hs (fun g hg e => ?_), h.low⟩
  · obtain ⟨c, hc⟩ := owns_block hp2.own g hg; exact block_ne hc hb (by decide) e
  · obtain ⟨c, hc⟩ := owns_block (hp2.chain i hi hk) g hg; exact block_ne hc hb (by decide) e
  · obtain ⟨c, hc⟩ := owns_block hl g hg; exact block_ne hc hb (by decide) e

theorem PlanOwn.setLife {w : World} {N pb g : Nat} {p : Pl} {pa : Option Addr} {pc : Nat} {lc : Nat} {m : List (Value × Pt)} (h : PlanOwn w N pb p pa pc (some ⟨g, 0, none⟩) lc m) (k : Nat) (hk : k < p.lives.length) (x : Int × Int) :
    PlanOwn ((w.setCell ⟨g, k * 2, none⟩ (.int .i64 x.1)).setCell ⟨g, k * 2 + 1, none⟩ (.int .i64 x.2)) N pb ⟨p.nodes, p.copies, p.parts, p.lives.set k x⟩ pa pc (some ⟨g, 0, none⟩) lc m := by
  have hs := (upd_set1 w g (k * 2) (.int .i64 x.1)).trans (upd_set1 _ g (k * 2 + 1) (.int .i64 x.2))
  obtain ⟨c0, hg0⟩ := owns_block h.lives g rfl
  have hl := ((h.lives.stored (k * 2) (.int .i64 x.1)).1.stored (k * 2 + 1) (.int .i64 x.2)).1
  rw [lifeCells_set _ _ hk] at hl
  refine ⟨?_, h.parts.upd hs (fun g' hg e => ?_) (fun i hi hk g' hg e => ?_), h.eq, by simpa using hl, h.low⟩
  · rw [hs.block _ h.lt (fun e => block_ne h.blk hg0 (by decide) e)]
    simpa using h.blk
  · obtain ⟨c, hc⟩ := owns_block h.parts.own g' hg; exact block_ne hc hg0 (by decide) e
  · obtain ⟨c, hc⟩ := owns_block (h.parts.chain i hi hk) g' hg; exact block_ne hc hg0 (by decide) e

theorem OwnK.len_get {m : List (Value × Pt)} {P : List Pt} (h : m.map (·.2) = P) {j : Nat} (hj : j < m.length) (hj' : j < P.length) : m[j].2 = P[j] := by subst h; simp

/-- The chains' blocks lie below B. -/
def Blks (m : List (Value × Pt)) (B : Nat) : Prop := ∀ x ∈ m, ∀ k, x.1.ownBlock = some k → k < B

theorem Blks.set {m : List (Value × Pt)} {B j : Nat} (h : Blks m B) (_hj : j < m.length) {x : Value × Pt} (hx : ∀ k, x.1.ownBlock = some k → k < B) : Blks (m.set j x) B := by
  intro y hy k hk
  rcases List.mem_or_eq_of_mem_set hy with h2 | rfl
  · exact h y h2 k hk
  · exact hx k hk

/-- A part's learner is written. -/
theorem PlanOwn.setLearner {w : World} {N pb g : Nat} {p : Pl} {pc : Nat} {la : Option Addr} {lc : Nat} {m : List (Value × Pt)} (h : PlanOwn w N pb p (some ⟨g, 0, none⟩) pc la lc m) (j : Nat) (hj : j < p.parts.length) (e : Int) :
    ∃ m', PlanOwn (w.setCell ⟨g, j * 3 + 2, none⟩ (.int .i64 e)) N pb ⟨p.nodes, p.copies, p.parts.set j ⟨p.parts[j].epoch, p.parts[j].chain, e⟩, p.lives⟩ (some ⟨g, 0, none⟩) pc la lc m' ∧ ∀ B, Blks m B → Blks m' B := by
  have hjm : j < m.length := by rw [h.len]; exact hj
  have hs := upd_set1 w g (j * 3 + 2) (.int .i64 e)
  obtain ⟨cp, hgp⟩ := owns_block h.parts.own g rfl
  refine ⟨m.set j (m[j].1, ⟨m[j].2.epoch, m[j].2.chain, e⟩), ⟨?_, ?_, ?_, ?_, h.low⟩, fun B hB => hB.set hjm (fun k hk => hB _ (List.getElem_mem hjm) k hk)⟩
  · rw [hs.block _ h.lt (fun e => block_ne h.blk hgp (by decide) e)]
    simpa using h.blk
  · have := h.parts.setLearner h.len.symm j hjm e
    rw [List.length_set]
    show OwnK _ _ _ _ _
    rw [List.length_set]
    exact this
  · rw [List.map_set, h.eq, OwnK.len_get h.eq hjm hj]
  · exact owns_upd h.lives hs (fun g' hg e => by obtain ⟨c, hc⟩ := owns_block h.lives g' hg; exact block_ne hc hgp (by decide) e)

/-- A part's epoch is written. -/
theorem PlanOwn.setEpoch {w : World} {N pb g : Nat} {p : Pl} {pc : Nat} {la : Option Addr} {lc : Nat} {m : List (Value × Pt)} (h : PlanOwn w N pb p (some ⟨g, 0, none⟩) pc la lc m) (j : Nat) (hj : j < p.parts.length) (e : Int) :
    ∃ m', PlanOwn (w.setCell ⟨g, j * 3, none⟩ (.int .i64 e)) N pb ⟨p.nodes, p.copies, p.parts.set j ⟨e, p.parts[j].chain, p.parts[j].learner⟩, p.lives⟩ (some ⟨g, 0, none⟩) pc la lc m' ∧ ∀ B, Blks m B → Blks m' B := by
  have hjm : j < m.length := by rw [h.len]; exact hj
  have hs := upd_set1 w g (j * 3) (.int .i64 e)
  obtain ⟨cp, hgp⟩ := owns_block h.parts.own g rfl
  refine ⟨m.set j (m[j].1, ⟨e, m[j].2.chain, m[j].2.learner⟩), ⟨?_, ?_, ?_, ?_, h.low⟩, fun B hB => hB.set hjm (fun k hk => hB _ (List.getElem_mem hjm) k hk)⟩
  · rw [hs.block _ h.lt (fun e => block_ne h.blk hgp (by decide) e)]
    simpa using h.blk
  · have := h.parts.setEpoch h.len.symm j hjm e
    rw [List.length_set]
    show OwnK _ _ _ _ _
    rw [List.length_set]
    exact this
  · rw [List.map_set, h.eq, OwnK.len_get h.eq hjm hj]
  · exact owns_upd h.lives hs (fun g' hg e => by obtain ⟨c, hc⟩ := owns_block h.lives g' hg; exact block_ne hc hgp (by decide) e)

/-- A part gets another chain: in its old block, or in a new one. -/
theorem PlanOwn.newChain {w w' : World} {F : Nat → Prop} {N pb g : Nat} {p : Pl} {pc : Nat} {la : Option Addr} {lc : Nat} {m : List (Value × Pt)} (h : PlanOwn w N pb p (some ⟨g, 0, none⟩) pc la lc m) (j : Nat) (hj : j < p.parts.length) (hjm : j < m.length)
    (hu : Upd F w w') (hF : ∀ k, F k → m[j].1.ownBlock = some k) {cv : Value} {l : List Int} (hc : w'.ownsRow N 3 1 cv l.length (intCells l)) (hb : ∀ k, cv.ownBlock = some k → m[j].1.ownBlock = some k ∨ w.heap.size ≤ k) :
    ∃ m', PlanOwn (w'.setCell ⟨g, j * 3 + 1, none⟩ cv) N pb ⟨p.nodes, p.copies, p.parts.set j ⟨p.parts[j].epoch, l, p.parts[j].learner⟩, p.lives⟩ (some ⟨g, 0, none⟩) pc la lc m' ∧ ∀ B, Blks m B → (∀ k, cv.ownBlock = some k → k < B) → Blks m' B := by
  have hs := upd_set1 w' g (j * 3 + 1) cv
  have hcj := h.parts.chain j hjm hjm
  obtain ⟨cp, hgp⟩ := owns_block h.parts.own g rfl
  have hne : ∀ {k T cur}, w.heap[k]? = some (.cells cur T (0, 0)) → T ≠ 3 → ¬ F k := by
    intro k T cur hk hT hf
    obtain ⟨c, hc⟩ := owns_block hcj k (hF k hf)
    rw [hk] at hc
    simp at hc
    exact hT hc.2
  have hgw : g < w.heap.size := (owns_lt h.parts.own g rfl).2
  have hgp' := (hu.block g hgw (hne hgp (by decide))).trans hgp
  have hbp := (hu.block pb h.lt (hne h.blk (by decide))).trans h.blk
  have hown' := owns_upd h.parts.own hu (fun k hk => by obtain ⟨c, hc⟩ := owns_block h.parts.own k hk; exact hne hc (by decide))
  have hlv := owns_upd h.lives hu (fun k hk => by obtain ⟨c, hc⟩ := owns_block h.lives k hk; exact hne hc (by decide))
  have hml := h.len
  refine ⟨m.set j (cv, ⟨m[j].2.epoch, l, m[j].2.learner⟩), ⟨?_, ⟨?_, ?_, ?_⟩, ?_, ?_, h.low⟩, fun B hB hx => hB.set hjm hx⟩
  · rw [hs.block _ (by have := hu.size; have := h.lt; omega) (fun e => block_ne h.blk hgp (by decide) e)]
    simpa using hbp
  · rw [hml] at hown'
    have := (hown'.stored (j * 3 + 1) cv).1
    rw [(partCells_set m j hjm cv ⟨m[j].2.epoch, l, m[j].2.learner⟩).2.1 rfl rfl] at this
    simpa [hml] using this
  · intro i hi _
    simp only [List.getElem_set]
    by_cases he : j = i
    · subst he
      simp only [if_true]
      exact owns_upd hc hs (fun g' hg e => by obtain ⟨c, hc2⟩ := owns_block hc g' hg; exact block_ne hc2 hgp' (by decide) e)
    · simp only [if_neg he]
      have hi' : i < m.length := by simpa using hi
      have hc' := owns_upd (h.parts.chain i hi' hi') hu (fun g' hg hf => h.parts.apart i j hi' hjm hi' hjm (fun e => he e.symm) g' hg (hF g' hf))
      exact owns_upd hc' hs (fun g' hg e => by obtain ⟨c, hc2⟩ := owns_block hc' g' hg; exact block_ne hc2 hgp' (by decide) e)
  · intro i i' hi hi' _ _ hne' g' hg
    have q1 : i < m.length := by simpa using hi
    have q2 : i' < m.length := by simpa using hi'
    have hfar : ∀ t (ht : t < m.length), t ≠ j → ∀ k, m[t].1.ownBlock = some k → cv.ownBlock ≠ some k := by
      intro t ht htj k hk hk2
      rcases hb k hk2 with h3 | h3
      · exact h.parts.apart t j ht hjm ht hjm htj k hk h3
      · have := (owns_lt (h.parts.chain t ht ht) k hk).2; omega
    simp only [List.getElem_set] at hg ⊢
    by_cases he : j = i
    · subst he
      simp only [if_true] at hg
      rw [if_neg hne']
      intro hg'
      exact hfar i' q2 (fun e => hne' e.symm) g' hg' hg
    · rw [if_neg he] at hg
      by_cases he' : j = i'
      · subst he'
        simp only [if_true]
        exact hfar i q1 hne' g' hg
      · rw [if_neg he']
        exact h.parts.apart i i' q1 q2 q1 q2 hne' g' hg
  · rw [List.map_set, h.eq, OwnK.len_get h.eq hjm hj]
  · exact owns_upd hlv hs (fun g' hg e => by obtain ⟨c, hc⟩ := owns_block hlv g' hg; exact block_ne hc hgp' (by decide) e)

/-- The plan gets another row of parts. -/
theorem PlanOwn.setParts {w w' : World} {F : Nat → Prop} {N pb : Nat} {p : Pl} {pa pa' : Option Addr} {pc pc' : Nat} {la : Option Addr} {lc : Nat} {m m' : List (Value × Pt)} (h : PlanOwn w N pb p pa pc la lc m) (hu : Upd F w w')
    (hF : ∀ k, F k → ∃ cur, w.heap[k]? = some (.cells cur 36 (0, 0))) {P : List Pt} (hm : m'.map (·.2) = P)
    (hl : OwnP w' N (.slice pa' P.length pc') m') : PlanOwn (w'.setCell ⟨pb, 2, none⟩ (.slice pa' P.length pc')) N pb ⟨p.nodes, p.copies, P, p.lives⟩ pa' pc' la lc m' := by
  have hs := upd_set1 w' pb 2 (.slice pa' P.length pc')
  have hne : ∀ {k T cur}, w.heap[k]? = some (.cells cur T (0, 0)) → T ≠ 36 → ¬ F k := by
    intro k T cur hk hT hf
    obtain ⟨c, hc⟩ := hF k hf
    rw [hk] at hc
    simp at hc
    exact hT hc.2
  have hb := (hu.block _ h.lt (hne h.blk (by decide))).trans h.blk
  have hlv := owns_upd h.lives hu (fun k hk => by obtain ⟨c, hc⟩ := owns_block h.lives k hk; exact hne hc (by decide))
  refine ⟨setCell_same hb, hl.upd hs (fun g hg e => ?_) (fun i hi hk g hg e => ?_), hm, owns_upd hlv hs (fun g hg e => ?_), h.low⟩
  · obtain ⟨c, hc⟩ := owns_block hl.own g hg; exact block_ne hc hb (by decide) e
  · obtain ⟨c, hc⟩ := owns_block (hl.chain i hi hk) g hg; exact block_ne hc hb (by decide) e
  · obtain ⟨c, hc⟩ := owns_block hlv g hg; exact block_ne hc hb (by decide) e

/-- What is written far above leaves the plan. -/
theorem PlanOwn.high {w w' : World} {F : Nat → Prop} {N B pb : Nat} {p : Pl} {pa : Option Addr} {pc : Nat} {la : Option Addr} {lc : Nat} {m : List (Value × Pt)} (h : PlanOwn w N pb p pa pc la lc m) (hB : Blks m B) (hpb : pb < B) (hu : Upd F w w')
    (hF : ∀ k, F k → B ≤ k ∧ ∃ cur, w.heap[k]? = some (.cells cur 3 (0, 0))) : PlanOwn w' N pb p pa pc la lc m := by
  have hne : ∀ {k T cur}, w.heap[k]? = some (.cells cur T (0, 0)) → T ≠ 3 → ¬ F k := by
    intro k T cur hk hT hf
    obtain ⟨-, c, hc⟩ := hF k hf
    rw [hk] at hc
    simp at hc
    exact hT hc.2
  refine ⟨(hu.block _ h.lt (fun hf => by have := (hF _ hf).1; omega)).trans h.blk, h.parts.upd hu (fun g hg => ?_) (fun i hi _ g hg hf => ?_), h.eq, owns_upd h.lives hu (fun g hg => ?_), h.low⟩
  · obtain ⟨c, hc⟩ := owns_block h.parts.own g hg; exact hne hc (by decide)
  · have := hB _ (List.getElem_mem hi) g hg
    have := (hF g hf).1
    omega
  · obtain ⟨c, hc⟩ := owns_block h.lives g hg; exact hne hc (by decide)
end Go.Proofs.YtcpaaleogmiamaaGreatDoor
namespace Go.Proofs.YtcpaaleogmiamaaGreatDoor
open Go.RowKit

def PlanFrom (w : World) (N : Nat) (v : Value) (p : Pl) : Prop := ∀ (F : Nat → Prop) (W : World), (∀ k, F k → k < N) → Upd F w W → PlanRd W v p

theorem PlanFrom.rd {w : World} {N : Nat} {v : Value} {p : Pl} (h : PlanFrom w N v p) : PlanRd w v p := h (fun _ => False) w (fun _ h => h.elim) (Upd.refl _ _)

theorem PlanFrom.below {w w' : World} {N : Nat} {v : Value} {p : Pl} (h : PlanFrom w N v p) (hb : Below w.heap.size w w') : PlanFrom w' N v p :=
  fun F W hF hu => h F W hF (((Upd.of_below (F := F) hb)).trans hu)

theorem PlanFrom.mono {w : World} {N N' : Nat} {v : Value} {p : Pl} (h : PlanFrom w N v p) (hn : N' ≤ N) : PlanFrom w N' v p :=
  fun F W hF hu => h F W (fun k hk => by have := hF k hk; omega) hu

theorem PlanFrom.upd {w w' : World} {F : Nat → Prop} {N : Nat} {v : Value} {p : Pl} (h : PlanFrom w N v p) (hu : Upd F w w') (hF : ∀ k, F k → k < N) : PlanFrom w' N v p :=
  fun G W hG hu2 => h (fun k => F k ∨ G k) W (fun k hk => hk.elim (hF k) (hG k)) ((hu.mono (fun _ _ h => .inl h)).trans (hu2.mono (fun _ _ h => .inr h)))

/-- Parts and lives that the call owns. -/
theorem PlanFrom.of_owns {w : World} {N : Nat} {p : Pl} {pa la : Option Addr} {pc lc : Nat} {m : List (Value × Pt)} (h : OwnP w N (.slice pa p.parts.length pc) m) (he : m.map (·.2) = p.parts)
    (hl : w.ownsRow N 134 2 (.slice la p.lives.length lc) p.lives.length (lifeCells p.lives)) : PlanFrom w N (planV p pa pc la lc) p := by
  intro F W hF hu
  have h2 := h.low hu hF
  have hl2 := owns_upd hl hu (fun g hg hf => by have := (owns_lt hl g hg).1; have := hF g hf; omega)
  exact ⟨_, _, rfl, by have := h2.rd; rw [he] at this; exact this, LivesRd.of_owns hl2⟩

theorem PlanFrom.zero (w : World) (N : Nat) : PlanFrom w N (.agg #[.int .i64 0, .int .i64 0, .slice none 0 0, .slice none 0 0]) .zero :=
  fun _ _ _ _ => ⟨_, _, rfl, ⟨[], rfl, ⟨rfl, .inl ⟨rfl, rfl⟩⟩, by simp⟩, ⟨rfl, .inl ⟨rfl, rfl⟩⟩⟩

theorem PlanOwn.toFrom {w : World} {N pb : Nat} {p : Pl} {pa : Option Addr} {pc : Nat} {la : Option Addr} {lc : Nat} {m : List (Value × Pt)} (h : PlanOwn w N pb p pa pc la lc m) : PlanFrom w N (planV p pa pc la lc) p :=
  PlanFrom.of_owns h.parts h.eq h.lives
end Go.Proofs.YtcpaaleogmiamaaGreatDoor
namespace Go.Proofs.YtcpaaleogmiamaaGreatDoor
open Go.RowKit

abbrev cfgV (n k p c a b d e : Int) : Value := .agg #[.int .i64 n, .int .i64 k, .int .i64 p, .int .i64 c, .int .i64 a, .int .i64 b, .int .i64 d, .int .i64 e]
def newOkB (n p c : Int) : Bool := inB n 1 5 && inB c 1 n && inB p 2 4
def newP (n p c : Nat) : Pl := ⟨n, c, (List.range p).map (fun i => placeP i n c), []⟩
abbrev zeroPlan : Value := .agg #[.int .i64 0, .int .i64 0, .slice none 0 0, .slice none 0 0]

set_option maxRecDepth 100000 in
set_option maxHeartbeats 2000000 in
theorem New_no (n k p c a b d e' : Int) (w : World) (h : newOkB n p c = false) : Calls Tryz.prog 61 #[cfgV n k p c a b d e'] w fun e w' =>
    e = .returned (.tuple #[zeroPlan, .int .i64 1]) ∧ Below w.heap.size w w' := by
  by_cases h1 : inB n 1 5 = true
  · by_cases h2 : inB c 1 n = true
    · have h3 : inB p 2 4 = false := by simpa [newOkB, h1, h2] using h
      go_enter Tryz.func61, Tryz.ntmps61
      go_wp2_with (first | (go_at_call 74; refine (within_any _ _ _ _).mono ?_; rintro _ w1 ⟨rfl, rfl⟩; (first | rw [h1] | rw [h2] | rw [h3])))
      refine bodyPost_ret (v := .tuple #[zeroPlan, .int .i64 1]) (by simp [results, Tryz.results61, go_sem]) rfl ⟨rfl, ?_⟩
      exact below_alloc2 _ _ _
    · have h2 : inB c 1 n = false := by simpa using h2
      go_enter Tryz.func61, Tryz.ntmps61
      go_wp2_with (first | (go_at_call 74; refine (within_any _ _ _ _).mono ?_; rintro _ w1 ⟨rfl, rfl⟩; (first | rw [h1] | rw [h2])))
      refine bodyPost_ret (v := .tuple #[zeroPlan, .int .i64 1]) (by simp [results, Tryz.results61, go_sem]) rfl ⟨rfl, below_alloc2 _ _ _⟩
  · have h1 : inB n 1 5 = false := by simpa using h1
    go_enter Tryz.func61, Tryz.ntmps61
    go_wp2_with (first | (go_at_call 74; refine (within_any _ _ _ _).mono ?_; rintro _ w1 ⟨rfl, rfl⟩; (first | rw [h1])))
    refine bodyPost_ret (v := .tuple #[zeroPlan, .int .i64 1]) (by simp [results, Tryz.results61, go_sem]) rfl ⟨rfl, below_alloc2 _ _ _⟩

set_option maxRecDepth 100000 in
set_option maxHeartbeats 2000000 in
theorem New_yes (n p c : Nat) (k0 a b d e' : Int) (w : World) (h : newOkB n p c = true) : Calls Tryz.prog 61 #[cfgV n k0 p c a b d e'] w fun e w' =>
    ∃ v, e = .returned (.tuple #[v, .int .i64 0]) ∧ PlanFrom w' w.heap.size v (newP n p c) ∧ Below w.heap.size w w' := by
  obtain ⟨h1, h2, h3⟩ : inB n 1 5 = true ∧ inB c 1 n = true ∧ inB p 2 4 = true := by simpa [newOkB, and_assoc] using h
  have q1 := inB_iff.1 h1
  have q2 := inB_iff.1 h2
  have q3 := inB_iff.1 h3
  have hn : 0 < n := by omega
  have hn5 : n ≤ 5 := by omega
  have hc5 : c ≤ 5 := by omega
  have hp4 : p ≤ 4 := by omega
  obtain ⟨i1, ki, kz0, kz1, kz2⟩ := info_parts info_Part
  go_enter Tryz.func61, Tryz.ntmps61
  go_wp2_with (first | (go_at_call 74; refine (within_any _ _ _ _).mono ?_; rintro _ w1 ⟨rfl, rfl⟩; (first | rw [h1] | rw [h2] | rw [h3])))
  go_loopg [5, 32] p (fun gk _ i wr => ∃ (k : Nat) (pa : Option Addr) (pc : Nat) (m : List (Value × Pt)), k ≤ p ∧ gk = p - k ∧ i = .int .i64 k ∧ m.length = k ∧ m.map (·.2) = (List.range k).map (fun i => placeP i n c) ∧ OwnP wr (w.heap.size + 3) (.slice pa k pc) m ∧
    wr.heap[w.heap.size + 2]? = some (.cells #[.int .i64 n, .int .i64 c, .slice pa k pc, .slice none 0 0] 52 (0, 0)) ∧ wr.heap[w.heap.size + 1]? = some (.cells #[.int .i64 0, .int .i64 0, .slice none 0 0, .slice none 0 0] 52 (0, 0)) ∧
    wr.heap[w.heap.size]? = some (.cells #[.int .i64 n, .int .i64 k0, .int .i64 p, .int .i64 c, .int .i64 a, .int .i64 b, .int .i64 d, .int .i64 e'] 25 (0, 0)) ∧ Below w.heap.size w wr)
  case atStart =>
    refine ⟨0, none, 0, [], Nat.zero_le _, rfl, rfl, rfl, rfl, OwnP.nil _ _, ?_, ?_, ?_, below_alloc3 _ _ _ _⟩
    · exact heap_new2 _ _ _ _
    · rw [Below.heap_alloc _ _ _ (by simp)]
      exact heap_new1 w _ _
    · rw [Below.heap_alloc _ _ _ (by simp; omega), Below.heap_alloc _ _ _ (by simp)]
      exact heap_alloc_new w _
  case round =>
    obtain ⟨k, pa, pc, m, hk, rfl, rfl, hml, hmp, hown, hx, h0, hcf, hbel⟩ := hrel
    have HX := Lib.hid (And.intro hml (And.intro hmp (And.intro hown (And.intro hx (And.intro h0 (And.intro hcf hbel))))))
    have hsz := hbel.size
    have hxlt : w.heap.size + 2 < wr.heap.size := (Array.getElem?_eq_some_iff.1 hx).1
    have hlo := fun g hg => (owns_lt hown.own g hg).1
    by_cases hlt : k < p
    · have i1' : (k : Int) < (p : Int) := by omega
      have i2 : (0 : Int) ≤ (k : Int) := by omega
      have hkeep : ∀ w', Upd (fun b => some b = (Value.slice pa k pc).ownBlock) wr w' → w'.cell? ⟨w.heap.size, 0, none⟩ = some (.int .i64 n) ∧ w'.cell? ⟨w.heap.size, 3, none⟩ = some (.int .i64 c) ∧
          w'.cell? ⟨w.heap.size + 2, 2, none⟩ = some (.slice pa k pc) ∧ w'.frozen? ⟨w.heap.size + 2, 2, none⟩ = false := by
        intro w' hu
        have hne2 : ¬ some (w.heap.size + 2) = (Value.slice pa k pc).ownBlock := fun e => by have := hlo _ e.symm; omega
        have hne0 : ¬ some w.heap.size = (Value.slice pa k pc).ownBlock := fun e => by have := hlo _ e.symm; omega
        have b2 := (hu.block _ hxlt hne2).trans hx
        have b0 := (hu.block _ (by omega) hne0).trans hcf
        exact ⟨cells_of b0 0 _ rfl, cells_of b0 3 _ rfl, cells_of b2 2 _ rfl, frozen_of b2⟩
      have HK := Lib.hid hkeep
      have hownk : wr.ownsRow (w.heap.size + 3) 36 3 (.slice pa k pc) k (partCells m) := by have := hown.own; rw [hml] at this; exact this
      have HOWN := Lib.hid hownk
      clear hownk
      obtain ⟨c0, c3, x2, fx⟩ := hkeep wr (Upd.refl _ _)
      obtain ⟨e0, e3, e2, -⟩ := hkeep wr.drew (upd_drew _ _)
      have HE := Lib.hid (And.intro e0 (And.intro e3 e2))
      clear e0 e3 e2
      have hb3 : w.heap.size + 3 ≤ wr.heap.size := by omega
      have HLO := Lib.hid hlo
      clear hkeep hx h0 hcf hown hmp hlo hbel
      generalize hX : w.heap.size + 2 = X at *
      have HHX := Lib.hid hX
      clear hX
      go_wp2
      go_region_law
        (first
          | (refine step_append_lies _ (by rfl) _ _ _ (by rfl) (w.heap.size + 3) 36 i1 _ 3 40 und_Parts ki kz0 kz1 kz2 rfl (by omega) (.slice pa k pc) k (partCells m) (by rfl) ((owns_upd HOWN.out hu5 (fun _ _ h => h)).alloc _) ⟨w5.heap.size, 0, none⟩ 1 1 [.int .i64 1, .slice ca c cc, .int .i64 0] (by rfl) (by rfl) (World.news_of_block (cs := #[.int .i64 1, .slice ca c cc, .int .i64 0]) (t := 36) (fr := (0, 0)) (heap_alloc_new w5 _)) (by simp [Value.oneCell']) (by omega) ?_ ?_ ?_ _ rfl ?_; (unfold maxLen; omega); omega; (first | (simp only [World.size_alloc]; omega) | omega); rintro g9 gcap9 w9 hown9 hgrow9 - hlt9; obtain ⟨_, _, c9, f9⟩ := HK.out w9 (((Upd.of_below hu5.below).trans (upd_alloc _ w5 _)).trans (upd_grown hgrow9)))
          | (go_simp; go_at_call 130; refine (place_any k n c _ hn (by omega) (by omega) (by omega)).mono ?_; rintro e w5 ⟨cv, rfl, hown5, hb5⟩; obtain ⟨ca, cc, rfl, -⟩ := (Sl.of_owns hown5).shape; have hu5 : Upd (fun _ => False) wr w5 := (upd_drew _ wr).trans (Upd.of_below hb5); have hs5 := hu5.size; obtain ⟨c50, c53, c55, f5⟩ := HK.out w5 (Upd.of_below hu5.below); have hka : ∀ o, (w5.alloc o).cell? ⟨X, 2, none⟩ = some (.slice pa k pc) := fun o => (HK.out (w5.alloc o) ((Upd.of_below hu5.below).trans (upd_alloc _ w5 o))).2.2.1))
      all_goals
        have hu9 := ((Upd.of_below (F := fun b => some b = (Value.slice pa k pc).ownBlock) hu5.below).trans (upd_alloc _ w5 (.cells #[.int .i64 1, .slice ca c cc, .int .i64 0] 36))).trans (upd_grown hgrow9)
        have hsn := HX.out.2.2.1.snoc (x := placeP k n c) hb3 hu5.below (cv := .slice ca c cc) (by have := owns_mono (base' := wr.heap.size) hown5 (Nat.le_refl _); simpa [placeP, chainP_length] using this) ((upd_alloc _ w5 (.cells #[.int .i64 1, .slice ca c cc, .int .i64 0] 36)).trans (upd_grown hgrow9)) (by rw [HX.out.1]; exact hown9)
        have HY := Lib.hid (And.intro hsn hu9)
        clear hsn hu9 hgrow9 hown9 hown5 hb5 hu5 c9 f9 hka c50 c53 c55 f5 c0 c3 x2 fx
        go_wp2
        go_roundg (p - (k + 1))
        case measure => omega
        case rel =>
          have hX := HHX.out
          obtain ⟨q1, q2, q3, q4, q5, q6, q7⟩ := HX.out
          have hlo : ∀ g, (Value.slice pa k pc).ownBlock = some g → w.heap.size + 3 ≤ g := HLO.out
          have hX2 := (HY.out.2.block X hxlt (fun e => by have := hlo _ e.symm; omega)).trans q4
          have h02 := (HY.out.2.block (w.heap.size + 1) (by omega) (fun e => by have := hlo _ e.symm; omega)).trans q5
          have hc2 := (HY.out.2.block w.heap.size (by omega) (fun e => by have := hlo _ e.symm; omega)).trans q6
          have hs9 := HY.out.2.size
          have hset := upd_set1 w9 X 2 (.slice (some ⟨g9, 0, none⟩) (k + 1) gcap9)
          refine ⟨k + 1, some ⟨g9, 0, none⟩, gcap9, m ++ [(.slice ca c cc, placeP k n c)], by omega, rfl, by go_num, by simp [q1], ?_, ?_, ?_, ?_, ?_, ?_⟩
          · rw [List.map_append, q2, List.range_succ, List.map_append]; rfl
          · exact HY.out.1.low hset (fun b e => by omega)
          · exact setCell_same hX2
          · rw [hset.block _ (by omega) (by omega)]; exact h02
          · rw [hset.block _ (by omega) (by omega)]; exact hc2
          · exact q7.trans ((HY.out.2.toBelow hsz (fun b e => by have := hlo b e.symm; omega)).trans (hset.toBelow (by omega) (fun b e => by omega)))
    · have i1' : ¬ (k : Int) < (p : Int) := by omega
      have hkp : k = p := by omega
      subst hkp
      obtain ⟨q1, q2, q3, q4, q5, q6, q7⟩ := HX.out
      have x0 := cells_of q4 0 _ rfl
      have x1 := cells_of q4 1 _ rfl
      have x2 := cells_of q4 2 _ rfl
      have x3 := cells_of q4 3 _ rfl
      have n0 := cells_of q5 0 _ rfl
      have n1 := cells_of q5 1 _ rfl
      have n2 := cells_of q5 2 _ rfl
      have n3 := cells_of q5 3 _ rfl
      have f0 := frozen_of (j := 0) q5
      have f1 := frozen_of (j := 1) q5
      have f2 := frozen_of (j := 2) q5
      have f3 := frozen_of (j := 3) q5
      have HH := Lib.hid (And.intro q2 (And.intro q3 (And.intro q5 q7)))
      clear q1 q2 q3 q4 q5 q6 q7 hx h0 hcf hown hmp hbel
      go_wp2
      obtain ⟨q2, q3, q5, q7⟩ := HH.out
      have hf := setCell_same (o := 3) (v := .slice none 0 0) (setCell_same (o := 2) (v := .slice pa k pc) (setCell_same (o := 1) (v := .int .i64 c) (setCell_same (o := 0) (v := .int .i64 n) q5)))
      have r0 := cells_of hf 0 _ rfl
      have r1 := cells_of hf 1 _ rfl
      have r2 := cells_of hf 2 _ rfl
      have r3 := cells_of hf 3 _ rfl
      have hset := upd_set4 wr (w.heap.size + 1) (.int .i64 n) (.int .i64 c) (.slice pa k pc) (.slice none 0 0)
      refine bodyPost_ret (v := .tuple #[.agg #[.int .i64 n, .int .i64 c, .slice pa k pc, .slice none 0 0], .int .i64 0]) (by simp [results, Tryz.results61, go_sem, r0, r1, r2, r3]) rfl ⟨_, rfl, ?_, ?_⟩
      · have hl1 : (newP n k c).parts.length = k := by simp [newP]
        have hl2 : (newP n k c).lives.length = 0 := by simp [newP]
        have hF := PlanFrom.of_owns (p := newP n k c) (pa := pa) (pc := pc) (la := none) (lc := 0) (m := m) (N := w.heap.size) (by rw [hl1]; exact (q3.low hset (fun b e => by omega)).mono (by omega)) (by rw [q2]; rfl) (by rw [hl2]; exact World.ownsRow_nil _ _ _ _)
        simp only [planV, hl1, hl2] at hF
        exact hF
      · exact q7.trans (hset.toBelow hsz (fun b e => by omega))
end Go.Proofs.YtcpaaleogmiamaaGreatDoor
