/- A plan and the places that have turned, all the call's own: what the reference's writes do to them. -/
import Derived.Test.YtjkobbmdemooaaaGreatDoorPx28
import Derived.Test.YtjkobbmdemooaaaGreatDoorPx22
namespace Go.Proofs.YtjkobbmdemooaaaGreatDoor
open Go.RowKit

/-- What is written into blocks of ints that no chain lies in leaves the plan. -/
theorem PlanOwn.keepT {w w' : World} {F : Nat → Prop} {N pb : Nat} {p : Pl} {pa : Option Addr} {pc : Nat} {la : Option Addr} {lc : Nat} {m : List (Value × Pt)} (h : PlanOwn w N pb p pa pc la lc m) (hu : Upd F w w')
    (hF : ∀ k, F k → (∃ cur, w.heap[k]? = some (.cells cur 3 (0, 0))) ∧ ∀ i (hi : i < m.length), m[i].1.ownBlock ≠ some k) : PlanOwn w' N pb p pa pc la lc m := by
  have hne : ∀ {k T cur}, w.heap[k]? = some (.cells cur T (0, 0)) → T ≠ 3 → ¬ F k := by
    intro k T cur hk hT hf
    obtain ⟨⟨c, hc⟩, -⟩ := hF k hf
    rw [hk] at hc
    simp at hc
    exact hT hc.2
  refine ⟨(hu.block _ h.lt (hne h.blk (by decide))).trans h.blk, h.parts.upd hu (fun g hg => ?_) (fun i hi _ g hg hf => (hF g hf).2 i hi hg), h.eq, owns_upd h.lives hu (fun g hg => ?_), h.low⟩
  · obtain ⟨c, hc⟩ := owns_block h.parts.own g hg; exact hne hc (by decide)
  · obtain ⟨c, hc⟩ := owns_block h.lives g hg; exact hne hc (by decide)

/-- A part is another one: what its row's cells are then is known, its chain is its old one's block or a new block. -/
theorem PlanOwn.reset {w w' : World} {F : Nat → Prop} {N pb g : Nat} {p : Pl} {pc : Nat} {la : Option Addr} {lc : Nat} {m : List (Value × Pt)} (h : PlanOwn w N pb p (some ⟨g, 0, none⟩) pc la lc m) (j : Nat) (hjm : j < m.length)
    (hu : Upd F w w') (hF : ∀ k, F k → (∃ cur, w.heap[k]? = some (.cells cur 74 (0, 0))) ∨ m[j].1.ownBlock = some k) {cv : Value} {y : Pt} (hrow : w'.ownsRow N 74 3 (.slice (some ⟨g, 0, none⟩) p.parts.length pc) m.length (partCells (m.set j (cv, y))))
    (hc : w'.ownsRow N 3 1 cv y.chain.length (intCells y.chain)) (hb : ∀ k, cv.ownBlock = some k → m[j].1.ownBlock = some k ∨ w.heap.size ≤ k) :
    PlanOwn w' N pb ⟨p.nodes, p.copies, p.parts.set j y, p.lives⟩ (some ⟨g, 0, none⟩) pc la lc (m.set j (cv, y)) := by
  have hcj := h.parts.chain j hjm hjm
  have hne : ∀ {k T cur}, w.heap[k]? = some (.cells cur T (0, 0)) → T ≠ 3 → T ≠ 74 → ¬ F k := by
    intro k T cur hk hT hT2 hf
    rcases hF k hf with ⟨c, hc⟩ | h2
    · rw [hk] at hc
      simp at hc
      exact hT2 hc.2
    · obtain ⟨c, hc⟩ := owns_block hcj k h2
      rw [hk] at hc
      simp at hc
      exact hT hc.2
  have hml := h.len
  refine ⟨?_, ⟨?_, ?_, ?_⟩, ?_, owns_upd h.lives hu (fun k hk => by obtain ⟨c, hc⟩ := owns_block h.lives k hk; exact hne hc (by decide) (by decide)), h.low⟩
  · have h1 := (hu.block pb h.lt (hne h.blk (by decide) (by decide))).trans h.blk
    simpa using h1
  · simpa using hrow
  · intro i hi _
    simp only [List.getElem_set]
    by_cases he : j = i
    · subst he
      simp only [if_true]
      exact hc
    · simp only [if_neg he]
      have hi' : i < m.length := by simpa using hi
      refine owns_upd (h.parts.chain i hi' hi') hu (fun g' hg' hf => ?_)
      rcases hF g' hf with ⟨c0, hc0⟩ | h2
      · obtain ⟨c, hc⟩ := owns_block (h.parts.chain i hi' hi') g' hg'
        rw [hc0] at hc
        simp at hc
      · exact h.parts.apart i j hi' hjm hi' hjm (fun e => he e.symm) g' hg' h2
  · intro i i' hi hi' _ _ hne' g' hg
    have q1 : i < m.length := by simpa using hi
    have q2 : i' < m.length := by simpa using hi'
    have hfar : ∀ t (ht : t < m.length), t ≠ j → ∀ k, m[t].1.ownBlock = some k → cv.ownBlock ≠ some k := by
      intro t ht htj k hk hk2
      rcases hb k hk2 with h3 | h3
      · exact h.parts.apart t j ht hjm ht hjm htj k hk h3
      · have := (owns_lt (h.parts.chain t ht ht) k hk).2; omega
    simp only [List.getElem_set] at hg ⊢
    by_cases he : j = i
    · subst he
      simp only [if_true] at hg
      rw [if_neg hne']
      intro hg'
      exact hfar i' q2 (fun e => hne' e.symm) g' hg' hg
    · rw [if_neg he] at hg
      by_cases he' : j = i'
      · subst he'
        simp only [if_true]
        exact hfar i q1 hne' g' hg
      · rw [if_neg he']
        exact h.parts.apart i i' q1 q2 q1 q2 hne' g' hg
  · rw [List.map_set, h.eq]

/-- A plan behind a pointer and the places that have turned, all the call's own, apart. -/
structure Tn (w : World) (N pb : Nat) (p : Pl) (t : List Int) (pa : Option Addr) (pc : Nat) (la : Option Addr) (lc : Nat) (m : List (Value × Pt)) (tv : Value) : Prop where
  own : PlanOwn w N pb p pa pc la lc m
  tur : w.ownsRow N 3 1 tv t.length (intCells t)
  far : ∀ i (hi : i < m.length) g, m[i].1.ownBlock = some g → tv.ownBlock ≠ some g

theorem Tn.below {w w' : World} {N pb : Nat} {p : Pl} {t : List Int} {pa : Option Addr} {pc : Nat} {la : Option Addr} {lc : Nat} {m : List (Value × Pt)} {tv : Value} (h : Tn w N pb p t pa pc la lc m tv) (hb : Below w.heap.size w w') : Tn w' N pb p t pa pc la lc m tv :=
  ⟨h.own.below hb, owns_upd h.tur (Upd.of_below (F := fun _ => False) hb) (fun _ _ h => h), h.far⟩

/-- One place more has turned. -/
theorem Tn.push {w w' : World} {N pb : Nat} {p : Pl} {t : List Int} {pa : Option Addr} {pc : Nat} {la : Option Addr} {lc : Nat} {m : List (Value × Pt)} {tv tv' : Value} (h : Tn w N pb p t pa pc la lc m tv)
    (hu : Upd (fun k => some k = tv.ownBlock) w w') {i : Int} (hown : w'.ownsRow N 3 1 tv' (t.length + 1) (intCells t ++ [.int .i64 i])) (hb : ∀ g, tv'.ownBlock = some g → tv.ownBlock = some g ∨ w.heap.size ≤ g) :
    Tn w' N pb p (t ++ [i]) pa pc la lc m tv' := by
  refine ⟨h.own.keepT hu (fun k hk => ⟨owns_block h.tur k hk.symm, fun i hi e => h.far i hi k e hk.symm⟩), by simpa [intCells] using hown, fun i hi g hg hg' => ?_⟩
  rcases hb g hg' with h2 | h2
  · exact h.far i hi g hg h2
  · have := (owns_lt (h.own.parts.chain i hi hi) g hg).2; omega

/-- A part is another one. -/
theorem Tn.reset {w w' : World} {F : Nat → Prop} {N pb g : Nat} {p : Pl} {t : List Int} {pc : Nat} {la : Option Addr} {lc : Nat} {m : List (Value × Pt)} {tv : Value} (h : Tn w N pb p t (some ⟨g, 0, none⟩) pc la lc m tv) (j : Nat) (hjm : j < m.length)
    (hu : Upd F w w') (hF : ∀ k, F k → (∃ cur, w.heap[k]? = some (.cells cur 74 (0, 0))) ∨ m[j].1.ownBlock = some k) {cv : Value} {y : Pt} (hrow : w'.ownsRow N 74 3 (.slice (some ⟨g, 0, none⟩) p.parts.length pc) m.length (partCells (m.set j (cv, y))))
    (hc : w'.ownsRow N 3 1 cv y.chain.length (intCells y.chain)) (hb : ∀ k, cv.ownBlock = some k → m[j].1.ownBlock = some k ∨ w.heap.size ≤ k) :
    Tn w' N pb ⟨p.nodes, p.copies, p.parts.set j y, p.lives⟩ t (some ⟨g, 0, none⟩) pc la lc (m.set j (cv, y)) tv := by
  refine ⟨h.own.reset j hjm hu hF hrow hc hb, owns_upd h.tur hu (fun k hk hf => ?_), fun i hi k hk hk' => ?_⟩
  · rcases hF k hf with ⟨c2, hc2⟩ | h2
    · obtain ⟨c, hc⟩ := owns_block h.tur k hk
      rw [hc] at hc2
      simp at hc2
    · exact h.far j hjm k h2 hk
  · simp only [List.getElem_set] at hk
    by_cases he : j = i
    · subst he
      simp only [if_true] at hk
      rcases hb k hk with h2 | h2
      · exact h.far j hjm k h2 hk'
      · have := (owns_lt h.tur k hk').2; omega
    · rw [if_neg he] at hk
      exact h.far i (by simpa using hi) k hk hk'

/-- The three cells of a part are written. -/
theorem part_cells3 (m : List (Value × Pt)) (k : Nat) (hk : k < m.length) (cv : Value) (y : Pt) :
    (((partCells m).set (k * 3) (.int .i64 y.epoch)).set (k * 3 + 1) cv).set (k * 3 + 2) (.int .i64 y.learner) = partCells (m.set k (cv, y)) := by
  have e1 := (partCells_set m k hk m[k].1 ⟨y.epoch, m[k].2.chain, m[k].2.learner⟩).1 rfl rfl
  have hk1 : k < (m.set k (m[k].1, (⟨y.epoch, m[k].2.chain, m[k].2.learner⟩ : Pt))).length := by simpa using hk
  have e2 := (partCells_set _ k hk1 cv ⟨y.epoch, y.chain, m[k].2.learner⟩).2.1 (by simp) (by simp)
  rw [e1, e2, List.set_set]
  have hk2 : k < (m.set k (cv, (⟨y.epoch, y.chain, m[k].2.learner⟩ : Pt))).length := by simpa using hk
  have e3 := (partCells_set _ k hk2 cv y).2.2 (by simp) (by simp)
  rw [e3, List.set_set]

/-- A part is written whole. -/
theorem Tn.store {w w' : World} {F : Nat → Prop} {N pb g : Nat} {p : Pl} {t : List Int} {pc : Nat} {la : Option Addr} {lc : Nat} {m : List (Value × Pt)} {tv : Value} (h : Tn w N pb p t (some ⟨g, 0, none⟩) pc la lc m tv) (j : Nat) (hjm : j < m.length)
    (hu : Upd F w w') (hF : ∀ k, F k → m[j].1.ownBlock = some k ∨ (k ≠ g ∧ ∃ cur, w.heap[k]? = some (.cells cur 74 (0, 0)))) {cv : Value} (y : Pt) (hc : w'.ownsRow N 3 1 cv y.chain.length (intCells y.chain)) (hb : ∀ k, cv.ownBlock = some k → m[j].1.ownBlock = some k ∨ w.heap.size ≤ k) :
    Tn (((w'.setCell ⟨g, j * 3, none⟩ (.int .i64 y.epoch)).setCell ⟨g, j * 3 + 1, none⟩ cv).setCell ⟨g, j * 3 + 2, none⟩ (.int .i64 y.learner)) N pb ⟨p.nodes, p.copies, p.parts.set j y, p.lives⟩ t (some ⟨g, 0, none⟩) pc la lc (m.set j (cv, y)) tv := by
  have hs := ((upd_set1 w' g (j * 3) (.int .i64 y.epoch)).trans (upd_set1 _ g (j * 3 + 1) cv)).trans (upd_set1 _ g (j * 3 + 2) (.int .i64 y.learner))
  obtain ⟨cp, hgp⟩ := owns_block h.own.parts.own g rfl
  have hgw : g < w.heap.size := (owns_lt h.own.parts.own g rfl).2
  have hnF : ¬ F g := fun hf => by
    rcases hF g hf with h2 | ⟨h2, -⟩
    · obtain ⟨c, hc⟩ := owns_block (h.own.parts.chain j hjm hjm) g h2
      rw [hgp] at hc
      simp at hc
    · exact h2 rfl
  have hrow0 := owns_upd h.own.parts.own hu (fun k hk => by simp only [Value.ownBlock, Option.some.injEq] at hk; subst hk; exact hnF)
  rw [h.own.len] at hrow0
  have hrow := (((hrow0.stored (j * 3) (.int .i64 y.epoch)).1.stored (j * 3 + 1) cv).1.stored (j * 3 + 2) (.int .i64 y.learner)).1
  rw [part_cells3 m j hjm cv y] at hrow
  have hgp' := (hu.block g hgw hnF).trans hgp
  refine h.reset (F := fun k => k = g ∨ F k) j hjm ((hu.mono (fun k _ h => .inr h)).trans (hs.mono (fun k _ h => .inl h))) (fun k hk => hk.elim (fun e => .inl ⟨cp, by rw [e]; exact hgp⟩) (fun h2 => (hF k h2).elim .inr (fun h3 => .inl h3.2))) (by rw [h.own.len]; exact hrow) (owns_upd hc hs (fun k hk e => ?_)) hb
  obtain ⟨c, hc2⟩ := owns_block hc k hk
  subst e
  rw [hgp'] at hc2
  simp at hc2

/-- What stands still while the reference applies an event: the plan and the event that came, the two empty plans. -/
structure Fx (w W : World) (N N1 N2 N3 B : Nat) (p : Pl) (pa la : Option Addr) (pc lc : Nat) (x : Event) : Prop where
  box : W.heap[N]? = some (.cells #[.int .i64 p.nodes, .int .i64 p.copies, .slice pa p.parts.length pc, .slice la p.lives.length lc] 25 (0, 0))
  ev : W.heap[N1]? = some (.cells #[.int .i64 x.kind, .int .i64 x.node, .int .i64 x.part, .int .i64 x.n] 27 (0, 0))
  res : W.heap[N2]? = some (.cells #[.int .i64 0, .int .i64 0, .slice none 0 0, .slice none 0 0] 25 (0, 0))
  non : W.heap[N3]? = some (.cells #[.int .i64 0, .int .i64 0, .slice none 0 0, .slice none 0 0] 25 (0, 0))
  rd0 : PlanRd w (planV p pa pc la lc) p
  bel : Below w.heap.size w W
  lt : w.heap.size ≤ N ∧ N < N1 ∧ N1 < N2 ∧ N2 < N3 ∧ N3 < B ∧ B ≤ W.heap.size

theorem Fx.upd {w W W' : World} {F : Nat → Prop} {N N1 N2 N3 B : Nat} {p : Pl} {pa la : Option Addr} {pc lc : Nat} {x : Event} (h : Fx w W N N1 N2 N3 B p pa la pc lc x) (hu : Upd F W W') (hF : ∀ k, F k → B ≤ k) : Fx w W' N N1 N2 N3 B p pa la pc lc x := by
  obtain ⟨l1, l2, l3, l4, l5, l6⟩ := h.lt
  have hs := hu.size
  exact ⟨(hu.block _ (by omega) (fun f => by have := hF _ f; omega)).trans h.box, (hu.block _ (by omega) (fun f => by have := hF _ f; omega)).trans h.ev, (hu.block _ (by omega) (fun f => by have := hF _ f; omega)).trans h.res, (hu.block _ (by omega) (fun f => by have := hF _ f; omega)).trans h.non,
    h.rd0, h.bel.trans (hu.toBelow h.bel.size (fun k f => by have := hF k f; omega)), l1, l2, l3, l4, l5, by omega⟩
theorem Fx.below {w W W' : World} {N N1 N2 N3 B : Nat} {p : Pl} {pa la : Option Addr} {pc lc : Nat} {x : Event} (h : Fx w W N N1 N2 N3 B p pa la pc lc x) (hb : Below W.heap.size W W') : Fx w W' N N1 N2 N3 B p pa la pc lc x :=
  h.upd (F := fun _ => False) (Upd.of_below hb) (fun _ f => f.elim)
theorem Fx.rd {w W : World} {N N1 N2 N3 B : Nat} {p : Pl} {pa la : Option Addr} {pc lc : Nat} {x : Event} (h : Fx w W N N1 N2 N3 B p pa la pc lc x) : PlanRd W (planV p pa pc la lc) p := h.rd0.below h.bel

/-- What is written at the end. -/
theorem Fx.fin {w W : World} {N N1 N2 N3 B : Nat} {p : Pl} {pa la : Option Addr} {pc lc : Nat} {x : Event} (h : Fx w W N N1 N2 N3 B p pa la pc lc x) (a b c d : Value) : ∃ W2, W2 = (((W.setCell ⟨N2, 0, none⟩ a).setCell ⟨N2, 1, none⟩ b).setCell ⟨N2, 2, none⟩ c).setCell ⟨N2, 3, none⟩ d ∧
    W2.cell? ⟨N2, 0, none⟩ = some a ∧ W2.cell? ⟨N2, 1, none⟩ = some b ∧ W2.cell? ⟨N2, 2, none⟩ = some c ∧ W2.cell? ⟨N2, 3, none⟩ = some d ∧ Below w.heap.size w W2 ∧ Upd (fun j => j = N2) W W2 := by
  obtain ⟨l1, l2, l3, l4, l5, l6⟩ := h.lt
  have hf := setCell_same (o := 3) (v := d) (setCell_same (o := 2) (v := c) (setCell_same (o := 1) (v := b) (setCell_same (o := 0) (v := a) h.res)))
  have hset := upd_set4 W N2 a b c d
  exact ⟨_, rfl, cells_of hf 0 _ rfl, cells_of hf 1 _ rfl, cells_of hf 2 _ rfl, cells_of hf 3 _ rfl, h.bel.trans (hset.toBelow h.bel.size (fun b e => by omega)), hset⟩

/-- Nothing is answered. -/
def Zd (w w' : World) (N2 : Nat) : Prop := w'.cell? ⟨N2, 0, none⟩ = some (.int .i64 0) ∧ w'.cell? ⟨N2, 1, none⟩ = some (.int .i64 0) ∧ w'.cell? ⟨N2, 2, none⟩ = some (.slice none 0 0) ∧ w'.cell? ⟨N2, 3, none⟩ = some (.slice none 0 0) ∧ Below w.heap.size w w'

/-- What Apply answers, R being what it is in plain words. -/
def AppR (w : World) (R : Pl × List Int × Int) (e : Ending) (w' : World) : Prop :=
  ∃ v tv, e = .returned (.tuple #[v, tv, .int .i64 R.2.2]) ∧ PlanFrom w' w.heap.size v R.1 ∧ TurnRd w' tv R.2.1 ∧ Below w.heap.size w w'

theorem Fx.cells {w W : World} {N N1 N2 N3 B : Nat} {p : Pl} {pa la : Option Addr} {pc lc : Nat} {x : Event} (h : Fx w W N N1 N2 N3 B p pa la pc lc x) :
    (W.cell? ⟨N, 0, none⟩ = some (.int .i64 p.nodes) ∧ W.cell? ⟨N, 1, none⟩ = some (.int .i64 p.copies) ∧ W.cell? ⟨N, 2, none⟩ = some (.slice pa p.parts.length pc) ∧ W.cell? ⟨N, 3, none⟩ = some (.slice la p.lives.length lc)) ∧
    (W.cell? ⟨N1, 0, none⟩ = some (.int .i64 x.kind) ∧ W.cell? ⟨N1, 1, none⟩ = some (.int .i64 x.node) ∧ W.cell? ⟨N1, 2, none⟩ = some (.int .i64 x.part) ∧ W.cell? ⟨N1, 3, none⟩ = some (.int .i64 x.n)) :=
  ⟨⟨cells_of h.box 0 _ rfl, cells_of h.box 1 _ rfl, cells_of h.box 2 _ rfl, cells_of h.box 3 _ rfl⟩, ⟨cells_of h.ev 0 _ rfl, cells_of h.ev 1 _ rfl, cells_of h.ev 2 _ rfl, cells_of h.ev 3 _ rfl⟩⟩
theorem Fx.zeros {w W : World} {N N1 N2 N3 B : Nat} {p : Pl} {pa la : Option Addr} {pc lc : Nat} {x : Event} (h : Fx w W N N1 N2 N3 B p pa la pc lc x) :
    (W.cell? ⟨N3, 0, none⟩ = some (.int .i64 0) ∧ W.cell? ⟨N3, 1, none⟩ = some (.int .i64 0) ∧ W.cell? ⟨N3, 2, none⟩ = some (.slice none 0 0) ∧ W.cell? ⟨N3, 3, none⟩ = some (.slice none 0 0)) ∧
    (W.cell? ⟨N2, 0, none⟩ = some (.int .i64 0) ∧ W.cell? ⟨N2, 1, none⟩ = some (.int .i64 0) ∧ W.cell? ⟨N2, 2, none⟩ = some (.slice none 0 0) ∧ W.cell? ⟨N2, 3, none⟩ = some (.slice none 0 0)) ∧
    (W.frozen? ⟨N2, 0, none⟩ = false ∧ W.frozen? ⟨N2, 1, none⟩ = false ∧ W.frozen? ⟨N2, 2, none⟩ = false ∧ W.frozen? ⟨N2, 3, none⟩ = false) :=
  ⟨⟨cells_of h.non 0 _ rfl, cells_of h.non 1 _ rfl, cells_of h.non 2 _ rfl, cells_of h.non 3 _ rfl⟩, ⟨cells_of h.res 0 _ rfl, cells_of h.res 1 _ rfl, cells_of h.res 2 _ rfl, cells_of h.res 3 _ rfl⟩, ⟨frozen_of h.res, frozen_of h.res, frozen_of h.res, frozen_of h.res⟩⟩
/-- What is written where nothing is answered. -/
theorem Fx.zd {w W : World} {N N1 N2 N3 B : Nat} {p : Pl} {pa la : Option Addr} {pc lc : Nat} {x : Event} (h : Fx w W N N1 N2 N3 B p pa la pc lc x) :
    Zd w ((((W.setCell ⟨N2, 0, none⟩ (.int .i64 0)).setCell ⟨N2, 1, none⟩ (.int .i64 0)).setCell ⟨N2, 2, none⟩ (.slice none 0 0)).setCell ⟨N2, 3, none⟩ (.slice none 0 0)) N2 := by
  obtain ⟨W2, hW2, r0, r1, r2, r3, hbf, -⟩ := h.fin (.int .i64 0) (.int .i64 0) (.slice none 0 0) (.slice none 0 0)
  rw [← hW2]
  exact ⟨r0, r1, r2, r3, hbf⟩

/-- One place more has turned: the append's world. -/
theorem Tn.push1 {w w9 : World} {N pb g gcap : Nat} {p : Pl} {t : List Int} {pa : Option Addr} {pc : Nat} {la : Option Addr} {lc : Nat} {m : List (Value × Pt)} {tv : Value} {o : Obj} (h : Tn w N pb p t pa pc la lc m tv) {i : Int}
    (hown : w9.ownsRow N 3 1 (.slice (some ⟨g, 0, none⟩) (t.length + 1) gcap) (t.length + 1) (intCells t ++ [.int .i64 i])) (hgrow : (w.alloc o).grownBy w9 tv.ownBlock) (hat : tv.ownBlock = some g ∨ g = (w.alloc o).heap.size) :
    Tn w9 N pb p (t ++ [i]) pa pc la lc m (.slice (some ⟨g, 0, none⟩) (t ++ [i]).length gcap) ∧ Upd (fun k => some k = tv.ownBlock) w w9 := by
  have hu := (upd_alloc (fun k => some k = tv.ownBlock) w o).trans (upd_grown hgrow)
  have hl : (t ++ [i]).length = t.length + 1 := by simp
  rw [hl]
  refine ⟨h.push hu hown (fun k hk => ?_), hu⟩
  simp only [Value.ownBlock, Option.some.injEq] at hk
  subst hk
  rcases hat with h2 | h2
  · exact .inl h2
  · right; rw [h2]; simp

theorem Tn.setLearner {w : World} {N pb g : Nat} {p : Pl} {t : List Int} {pc : Nat} {la : Option Addr} {lc : Nat} {m : List (Value × Pt)} {tv : Value} (h : Tn w N pb p t (some ⟨g, 0, none⟩) pc la lc m tv) (j : Nat) (hj : j < p.parts.length) (e : Int) :
    ∃ m', Tn (w.setCell ⟨g, j * 3 + 2, none⟩ (.int .i64 e)) N pb ⟨p.nodes, p.copies, p.parts.set j ⟨p.parts[j].epoch, p.parts[j].chain, e⟩, p.lives⟩ t (some ⟨g, 0, none⟩) pc la lc m' tv := by
  have hjm : j < m.length := by rw [h.own.len]; exact hj
  have hs := upd_set1 w g (j * 3 + 2) (.int .i64 e)
  have he := OwnK.len_get h.own.eq hjm hj
  have hrow0 := h.own.parts.own
  rw [h.own.len] at hrow0
  have hrow := (hrow0.stored (j * 3 + 2) (.int .i64 e)).1
  rw [(partCells_set m j hjm m[j].1 ⟨p.parts[j].epoch, p.parts[j].chain, e⟩).2.2 rfl (by rw [he])] at hrow
  have hch := h.own.parts.chain j hjm hjm
  obtain ⟨cp, hgp⟩ := owns_block h.own.parts.own g rfl
  have hch2 := owns_upd hch hs (fun k hk e => by
    obtain ⟨c, hc2⟩ := owns_block hch k hk
    subst e
    rw [hgp] at hc2
    simp at hc2)
  rw [he] at hch2
  exact ⟨_, h.reset j hjm hs (fun k hk => .inl ⟨cp, by rw [hk]; exact hgp⟩) (by rw [h.own.len]; exact hrow) hch2 (fun k hk => .inl hk)⟩

end Go.Proofs.YtjkobbmdemooaaaGreatDoor
