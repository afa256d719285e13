/- The row of batches that a law gathers: what keeps it whole. -/
/- A strand, its tape and a gathered row together: each act. -/
/- A strand, its tape, and what a law holds beside them in blocks of its own: each act. -/
import Derived.Test.YtcpaaleogmiamaaGreatDoorMp39
import Derived.Test.YtcpaaleogmiamaaGreatDoorMp32
import Derived.Test.YtcpaaleogmiamaaGreatDoorMp24
import Derived.Test.YtcpaaleogmiamaaGreatDoorMp35
import Derived.Test.YtcpaaleogmiamaaGreatDoorMp38
namespace Go.Proofs.YtcpaaleogmiamaaGreatDoor
open Go.RowKit

theorem allB_sub {a b : List Sg} (h : a.Sublist b) : (allB a).length ≤ (allB b).length := by
  induction h with
  | slnil => exact Nat.le_refl _
  | cons x _ ih =>
    simp only [allB, List.flatMap_cons, List.length_append] at ih ⊢
    omega
  | cons_cons x _ ih =>
    simp only [allB, List.flatMap_cons, List.length_append] at ih ⊢
    omega
theorem allB_step {s : List Sg} {k i : Nat} (hk : k ≤ i) (hi : i < s.length) : allB ((s.take (i + 1)).drop k) = allB ((s.take i).drop k) ++ s[i].list := by
  rw [List.take_succ_eq_append_getElem hi, List.drop_append_of_le_length (by simp; omega), allB_append]
  simp [allB]

/-- A row of batches of one's own, its words apart from X; P is told of its memory, too. -/
def WnR (w0 W : World) (X : Nat → Prop) (P : World → Prop) (wv : Value) (l : List Batch) : Prop :=
  ∃ (m : List (Value × Batch)) (T : Nat → Prop), m.map (·.2) = l ∧ W.ownsRow w0.heap.size 40 6 wv m.length (bCells m) ∧ (∀ g, wv.ownBlock = some g → ¬ X g ∧ ¬ T g) ∧ (∀ y ∈ m, InS W T (fun V => RcsRd V y.1 y.2.recs)) ∧ InS W T P ∧ (∀ k, T k → ¬ X k ∧ w0.heap.size ≤ k ∧ k < W.heap.size)

section
variable {w0 W W' : World} {X X' F : Nat → Prop} {P : World → Prop} {wv : Value} {l l2 : List Batch}
theorem WnR.upd (h : WnR w0 W X P wv l) (hu : Upd F W W') (hF : ∀ k, F k → X k ∨ W.heap.size ≤ k) (hX : ∀ k, X' k → X k ∨ W.heap.size ≤ k) : WnR w0 W' X' P wv l := by
  obtain ⟨m, T, h1, h2, h3, h4, h5, h6⟩ := h
  have hT : ∀ k, T k → k < W.heap.size → ¬ F k := fun k hk hlt hf => (hF k hf).elim (h6 k hk).1 (fun e => by omega)
  refine ⟨m, T, h1, owns_upd h2 hu (fun g hg hf => (hF g hf).elim (h3 g hg).1 (fun e => by have := (owns_lt h2 g hg).2; omega)), fun g hg => ⟨fun hx => (hX g hx).elim (h3 g hg).1 (fun e => by have := (owns_lt h2 g hg).2; omega), (h3 g hg).2⟩, fun y hy => (h4 y hy).upd hu hT, h5.upd hu hT, fun k hk => ?_⟩
  obtain ⟨q1, q2, q3⟩ := h6 k hk
  exact ⟨fun hx => (hX k hx).elim q1 (fun e => by omega), q2, Nat.lt_of_lt_of_le q3 hu.size⟩
theorem WnR.below (h : WnR w0 W X P wv l) (hb : Below W.heap.size W W') : WnR w0 W' X P wv l :=
  h.upd (F := fun _ => False) (.of_below hb) (fun _ hk => hk.elim) (fun _ hk => .inl hk)
theorem WnR.rd (h : WnR w0 W X P wv l) : BsRd W wv l := by
  obtain ⟨m, T, h1, h2, -, h4, -, -⟩ := h
  exact ⟨m, h1, (Sl.of_owns h2).rd, fun y hy => (h4 y hy).here⟩
theorem WnR.p (h : WnR w0 W X P wv l) : P W := by
  obtain ⟨m, T, -, -, -, -, h5, -⟩ := h
  exact h5.here
theorem WnR.shape (h : WnR w0 W X P wv l) : ∃ a c, wv = .slice a l.length c := by
  obtain ⟨m, T, h1, h2, -, -, -, -⟩ := h
  obtain ⟨a, c, e, -⟩ := (Sl.of_owns h2).shape
  exact ⟨a, c, by rw [e, ← h1]; simp⟩
theorem WnR.own (h : WnR w0 W X P wv l) : ∀ g, wv.ownBlock = some g → ¬ X g ∧ w0.heap.size ≤ g := by
  obtain ⟨m, T, -, h2, h3, -, -, -⟩ := h
  exact fun g hg => ⟨(h3 g hg).1, (owns_lt h2 g hg).1⟩
/-- A list of batches behind it. -/
theorem WnR.grow {v' : Value} (h : WnR w0 W X P wv l) (hX : ∀ k, X k → k < W.heap.size) (hb : Below W.heap.size W W') (hc : BsIn W' (fun k => W.heap.size ≤ k) v' l2) (h0 : w0.heap.size ≤ W.heap.size) :
    ∃ xs news : List Value, W'.ownsRow w0.heap.size 40 6 wv l.length xs ∧ Rd W' 6 v' l2.length news ∧ (∀ u ∈ news, u.oneCell' = true) ∧ ∀ a' c' w7, w7.ownsRow w0.heap.size 40 6 (.slice a' (l.length + l2.length) c') (l.length + l2.length) (xs ++ news) → W'.grownBy w7 wv.ownBlock →
      ((Value.slice a' (l.length + l2.length) c').ownBlock = wv.ownBlock ∨ (Value.slice a' (l.length + l2.length) c').ownBlock = some W'.heap.size) → WnR w0 w7 X P (.slice a' (l.length + l2.length) c') (l ++ l2) := by
  have hz := hb.size
  obtain ⟨m, T, rfl, h2, h3, h4, h5, h6⟩ := h
  obtain ⟨m2, rfl, c1, c2⟩ := hc
  have hown : ∀ g, wv.ownBlock = some g → g < W.heap.size := fun g hg => (owns_lt h2 g hg).2
  refine ⟨bCells m, bCells m2, ?_, by simpa using c1.here, one_bs (fun x hx => rd_one (c2 x hx).here), ?_⟩
  · have := owns_upd h2 (Upd.of_below (F := fun _ => False) hb) (fun _ _ h => h)
    simpa using this
  · intro a' c' w7 k1 k2 k3
    have hu7 := upd_grown k2
    have hz7 := hu7.size
    have e0 : (m.map (·.2)).length + (m2.map (·.2)).length = (m ++ m2).length := by simp
    have e1 : bCells m ++ bCells m2 = bCells (m ++ m2) := by simp [bCells]
    rw [e0, e1] at k1
    rw [e0] at k3 ⊢
    refine ⟨m ++ m2, fun k => T k ∨ (W.heap.size ≤ k ∧ k < W'.heap.size), by simp, k1, ?_, ?_, ?_, ?_⟩
    · intro g hg
      rcases k3 with k3 | k3
      · rw [k3] at hg
        have := hown g hg
        exact ⟨(h3 g hg).1, fun ht => ht.elim (h3 g hg).2 (fun e => by omega)⟩
      · rw [k3] at hg
        simp only [Option.some.injEq] at hg
        subst hg
        exact ⟨fun hx => by have := hX _ hx; omega, fun ht => ht.elim (fun e => by have := (h6 _ e).2.2; omega) (fun e => by omega)⟩
    · have hTF : ∀ k, T k → k < W'.heap.size → ¬ (some k = wv.ownBlock) := fun k hk _ e => (h3 k e.symm).2 hk
      intro y hy
      rcases List.mem_append.1 hy with hy | hy
      · exact (((h4 y hy).below hb).upd hu7 (fun k hk hl e => hTF k hk hl (by simpa using e))).grow (fun k hk _ => .inl hk)
      · have h1 : InS W' (fun k => W.heap.size ≤ k ∧ k < W'.heap.size) (fun V => RcsRd V y.1 y.2.recs) := (c2 y hy).grow (fun k hk hl => ⟨hk, hl⟩)
        exact (h1.upd hu7 (fun k hk hl e => by have := hown k (by simpa using e.symm); omega)).grow (fun k hk _ => .inr hk)
    · exact ((h5.below hb).upd hu7 (fun k hk hl e => (h3 k (by simpa using e.symm)).2 hk)).grow (fun k hk _ => .inl hk)
    · intro k hk
      rcases hk with hk | hk
      · obtain ⟨q1, q2, q3⟩ := h6 k hk
        exact ⟨q1, q2, by omega⟩
      · exact ⟨fun hx => by have := hX _ hx; omega, by omega, by omega⟩
end
end Go.Proofs.YtcpaaleogmiamaaGreatDoor
namespace Go.Proofs.YtcpaaleogmiamaaGreatDoor
open Go.RowKit

def DqR (w2 : World) (sb b mb : Nat) (P : World → Prop) (wv : Value) (l : List Batch) (x : St) (t : Tp) (W : World) : Prop :=
  ∃ (L : TpL) (S : Nat → Prop), Sd w2 W S sb b mb L x t ∧ WnR w2 W (SdF S b mb L) P wv l

section
variable {w2 W W' : World} {sb b mb : Nat} {P : World → Prop} {wv : Value} {l : List Batch} {x : St} {t : Tp}
theorem DqR.below (h : DqR w2 sb b mb P wv l x t W) (hb : Below W.heap.size W W') : DqR w2 sb b mb P wv l x t W' := by
  obtain ⟨L, S, h1, h2⟩ := h
  exact ⟨L, S, h1.below hb, h2.below hb⟩
theorem DqR.drew (h : DqR w2 sb b mb P wv l x t W) : DqR w2 sb b mb P wv l x t W.drew := h.below (Below.refl _ _).drew
theorem DqR.p (h : DqR w2 sb b mb P wv l x t W) : P W := by
  obtain ⟨L, S, h1, h2⟩ := h
  exact h2.p
theorem DqR.base (h : DqR w2 sb b mb P wv l x t W) : Below w2.heap.size w2 W := by
  obtain ⟨L, S, h1, h2⟩ := h
  exact h1.base
theorem DqR.act (h : DqR w2 sb b mb P wv l x t W) {f : Nat} {args : Array Value} {r : Tp × St × Int} (hc : ∀ S L, Sd w2 W S sb b mb L x t → Calls Tryz.prog f args W (SdTo w2 W S sb b mb L r)) :
    Calls Tryz.prog f args W fun e w' => e = .returned (.int .i64 r.2.2) ∧ DqR w2 sb b mb P wv l r.2.1 r.1 w' := by
  obtain ⟨L, S, h1, h2⟩ := h
  refine Calls.mono (hc S L h1) ?_
  rintro e w' ⟨S', L', rfl, hd', hu, hS, hL⟩
  refine ⟨rfl, L', S', hd', h2.upd hu (fun k hk => .inl hk) (fun k hk => ?_)⟩
  rcases hk with hk | hk
  · exact (hS k hk).elim (fun e => .inl (.inl e)) .inr
  · exact (TpF.new hL k hk).elim (fun e => .inl (.inr e)) .inr
theorem DqR.start (h : DqR w2 sb b mb P wv l x t W) : Calls Tryz.prog 54 #[.pointer (some ⟨sb, 0, none⟩)] W fun e w' => e = .returned (.int .i64 (startS x.segs)) ∧ w' = W := by
  obtain ⟨L, S, h1, h2⟩ := h
  exact StStart_any h1.st
theorem DqR.end (h : DqR w2 sb b mb P wv l x t W) : Calls Tryz.prog 32 #[.pointer (some ⟨sb, 0, none⟩)] W fun e w' => e = .returned (.int .i64 (endS x.segs)) ∧ DqR w2 sb b mb P wv l x t w' := by
  have hk := h
  obtain ⟨L, S, h1, h2⟩ := h
  exact Calls.mono (StEnd_any h1.st h1.ok) (fun e w' q => ⟨q.1, hk.below q.2⟩)
theorem DqR.all (h : DqR w2 sb b mb P wv l x t W) (hr : Row x.segs) (hl : x.segs.length ≤ 1000) (ha : (allB x.segs).length ≤ 1000) : Calls Tryz.prog 39 #[.pointer (some ⟨sb, 0, none⟩)] W fun e w' => (∃ va vc, e = .returned (.slice va (allB x.segs).length vc) ∧ BsRd w' (.slice va (allB x.segs).length vc) (allB x.segs)) ∧ DqR w2 sb b mb P wv l x t w' := by
  have hk := h
  obtain ⟨L, S, h1, h2⟩ := h
  obtain ⟨gv, m, D, hi⟩ := h1.st
  obtain ⟨n, hn, hc⟩ := hr.chain
  refine Calls.mono (L7all_any hi h1.ok (by omega) (fun g hg => by have := mem_allB hg; omega) (by omega) hc.chained.good) ?_
  rintro e w' ⟨a, c, rfl, hb, hbl⟩
  exact ⟨⟨a, c, rfl, hb.here⟩, hk.below hbl⟩
theorem DqR.same (h : DqR w2 sb b mb P wv l x t W) {v : Value} (hv : BsRd W v l) : Calls Tryz.prog 41 #[v, wv] W fun e w' => e = .returned (.bool true) ∧ DqR w2 sb b mb P wv l x t w' := by
  have hk := h
  obtain ⟨L, S, h1, h2⟩ := h
  exact Calls.mono (Batches7_same hv h2.rd) (fun e w' q => ⟨q.1, hk.below q.2⟩)
end

theorem startS_drop {s : List Sg} {k : Nat} (hk : k < s.length) : startS (s.drop k) = s[k].base := by
  rw [List.drop_eq_getElem_cons hk]; rfl
theorem endS_drop {s : List Sg} {k : Nat} (hk : k < s.length) : endS (s.drop k) = endS s := by
  unfold endS
  rw [List.getLast?_drop, if_neg (by omega)]
end Go.Proofs.YtcpaaleogmiamaaGreatDoor
namespace Go.Proofs.YtcpaaleogmiamaaGreatDoor
open Go.RowKit

/-- What is held lies from lo up to hi. -/
def HdR (w2 : World) (sb b mb lo hi : Nat) (P : World → Prop) (x : St) (t : Tp) (W : World) : Prop :=
  ∃ (L : TpL) (S : Nat → Prop), Sd w2 W S sb b mb L x t ∧ (∀ k, SdF S b mb L k → k < lo ∨ hi ≤ k) ∧ hi ≤ W.heap.size ∧ InS W (fun k => lo ≤ k ∧ k < hi) P

section
variable {w2 W W' : World} {sb b mb lo hi : Nat} {P Q : World → Prop} {x : St} {t : Tp}
theorem HdR.below (h : HdR w2 sb b mb lo hi P x t W) (hb : Below W.heap.size W W') : HdR w2 sb b mb lo hi P x t W' := by
  obtain ⟨L, S, h1, h2, h3, h4⟩ := h
  exact ⟨L, S, h1.below hb, h2, Nat.le_trans h3 hb.size, h4.below hb⟩
theorem HdR.drew (h : HdR w2 sb b mb lo hi P x t W) : HdR w2 sb b mb lo hi P x t W.drew := h.below (Below.refl _ _).drew
theorem HdR.p (h : HdR w2 sb b mb lo hi P x t W) : P W := by
  obtain ⟨L, S, h1, h2, h3, h4⟩ := h
  exact h4.here
theorem HdR.imp (h : HdR w2 sb b mb lo hi P x t W) (hpq : ∀ V, P V → Q V) : HdR w2 sb b mb lo hi Q x t W := by
  obtain ⟨L, S, h1, h2, h3, h4⟩ := h
  exact ⟨L, S, h1, h2, h3, h4.imp hpq⟩
theorem HdR.base (h : HdR w2 sb b mb lo hi P x t W) : Below w2.heap.size w2 W := by
  obtain ⟨L, S, h1, h2⟩ := h
  exact h1.base
theorem HdR.act (h : HdR w2 sb b mb lo hi P x t W) {f : Nat} {args : Array Value} {r : Tp × St × Int} (hc : ∀ S L, Sd w2 W S sb b mb L x t → Calls Tryz.prog f args W (SdTo w2 W S sb b mb L r)) :
    Calls Tryz.prog f args W fun e w' => e = .returned (.int .i64 r.2.2) ∧ HdR w2 sb b mb lo hi P r.2.1 r.1 w' := by
  obtain ⟨L, S, h1, h2, h3, h4⟩ := h
  refine Calls.mono (hc S L h1) ?_
  rintro e w' ⟨S', L', rfl, hd', hu, hS, hL⟩
  refine ⟨rfl, L', S', hd', fun k hk => ?_, Nat.le_trans h3 hu.size, h4.upd hu (fun k hk _ hf => (h2 k hf).elim (fun e => by omega) (fun e => by omega))⟩
  rcases hk with hk | hk
  · exact (hS k hk).elim (fun e => h2 k (.inl e)) (fun e => .inr (by omega))
  · exact (TpF.new hL k hk).elim (fun e => h2 k (.inr e)) (fun e => .inr (by omega))
theorem HdR.start (h : HdR w2 sb b mb lo hi P x t W) : Calls Tryz.prog 54 #[.pointer (some ⟨sb, 0, none⟩)] W fun e w' => e = .returned (.int .i64 (startS x.segs)) ∧ w' = W := by
  obtain ⟨L, S, h1, h2⟩ := h
  exact StStart_any h1.st
theorem HdR.end (h : HdR w2 sb b mb lo hi P x t W) : Calls Tryz.prog 32 #[.pointer (some ⟨sb, 0, none⟩)] W fun e w' => e = .returned (.int .i64 (endS x.segs)) ∧ HdR w2 sb b mb lo hi P x t w' := by
  have hk := h
  obtain ⟨L, S, h1, h2⟩ := h
  exact Calls.mono (StEnd_any h1.st h1.ok) (fun e w' q => ⟨q.1, hk.below q.2⟩)
theorem HdR.all (h : HdR w2 sb b mb lo hi P x t W) (hr : Row x.segs) (hl : x.segs.length ≤ 1000) (ha : (allB x.segs).length ≤ 1000) : Calls Tryz.prog 39 #[.pointer (some ⟨sb, 0, none⟩)] W fun e w' => (∃ va vc, e = .returned (.slice va (allB x.segs).length vc) ∧ BsRd w' (.slice va (allB x.segs).length vc) (allB x.segs)) ∧ HdR w2 sb b mb lo hi P x t w' := by
  have hk := h
  obtain ⟨L, S, h1, h2⟩ := h
  obtain ⟨gv, m, D, hi⟩ := h1.st
  obtain ⟨n, hn, hc⟩ := hr.chain
  refine Calls.mono (L7all_any hi h1.ok (by omega) (fun g hg => by have := mem_allB hg; omega) (by omega) hc.chained.good) ?_
  rintro e w' ⟨a, c, rfl, hb, hbl⟩
  exact ⟨⟨a, c, rfl, hb.here⟩, hk.below hbl⟩
/-- All batches, to be held. -/
theorem Sd.allHd {L : TpL} {S : Nat → Prop} (h : Sd w2 W S sb b mb L x t) (hr : Row x.segs) (hl : x.segs.length ≤ 1000) (ha : (allB x.segs).length ≤ 1000) : Calls Tryz.prog 39 #[.pointer (some ⟨sb, 0, none⟩)] W fun e w' => ∃ va vc lo hi, e = .returned (.slice va (allB x.segs).length vc) ∧ HdR w2 sb b mb lo hi (fun V => BsRd V (.slice va (allB x.segs).length vc) (allB x.segs)) x t w' := by
  obtain ⟨gv, m, D, hi⟩ := h.st
  obtain ⟨n, hn, hc⟩ := hr.chain
  refine Calls.mono (L7all_any hi h.ok (by omega) (fun g hg => by have := mem_allB hg; omega) (by omega) hc.chained.good) ?_
  rintro e w' ⟨a, c, rfl, hb, hbl⟩
  exact ⟨a, c, W.heap.size, w'.heap.size, rfl, L, S, h.below hbl, fun k hk => .inl (h.lt k hk), Nat.le_refl _, hb.inS.grow (fun k h1 h2 => ⟨h1, h2⟩)⟩
theorem HdR.same (h : HdR w2 sb b mb lo hi P x t W) {v wv : Value} {l : List Batch} (hv : BsRd W v l) (hp : ∀ V, P V → BsRd V wv l) : Calls Tryz.prog 41 #[v, wv] W fun e w' => e = .returned (.bool true) ∧ HdR w2 sb b mb lo hi P x t w' := by
  exact Calls.mono (Batches7_same hv (hp _ h.p)) (fun e w' q => ⟨q.1, h.below q.2⟩)
end

/-- A tape alone, and what is held. -/
def TdR (w2 : World) (b mb lo hi : Nat) (P : World → Prop) (t : Tp) (W : World) : Prop :=
  ∃ L, Td w2 W b mb L t ∧ (∀ k, TpF b mb L k → k < lo ∨ hi ≤ k) ∧ hi ≤ W.heap.size ∧ InS W (fun k => lo ≤ k ∧ k < hi) P
theorem onAt_names {t t' : Tp} (h : OnAt t t') : t'.files.map (·.1) = t.files.map (·.1) := by
  unfold OnAt at h
  split at h
  · obtain ⟨-, -, -, -, -, h6⟩ := h
    generalize t'.files = l2 at h6
    generalize t.files = l at h6
    induction h6 with
    | nil => rfl
    | cons h1 _ ih => simp only [List.map_cons, ih, h1.1]
  · rw [h]
section
variable {w2 W W' : World} {sb b mb lo hi : Nat} {P Q : World → Prop} {x : St} {t : Tp}
theorem TdR.below (h : TdR w2 b mb lo hi P t W) (hb : Below W.heap.size W W') : TdR w2 b mb lo hi P t W' := by
  obtain ⟨L, h1, h2, h3, h4⟩ := h
  exact ⟨L, h1.below hb, h2, Nat.le_trans h3 hb.size, h4.below hb⟩
theorem HdR.tdR (h : HdR w2 sb b mb lo hi P x t W) : TdR w2 b mb lo hi P t W := by
  obtain ⟨L, S, h1, h2, h3, h4⟩ := h
  exact ⟨L, h1.td, fun k hk => h2 k (.inr hk), h3, h4⟩
theorem TdR.off (h : TdR w2 b mb lo hi P t W) : Calls Tryz.prog 25 #[.pointer (some ⟨b, 0, none⟩)] W fun e w' => e = .returned (.tuple #[]) ∧ TdR w2 b mb lo hi P (offT t) w' := by
  obtain ⟨L, h1, h2, h3, h4⟩ := h
  refine Calls.mono (TOff_any h1.tp) ?_
  rintro e w' ⟨rfl, hat, hu⟩
  have hub := hu.or (G := TpF b mb L) (fun k e => .inl e)
  refine ⟨rfl, L, h1.tape hat hub (fun k hk => .inl hk) (by intro y hy; rw [offT_files] at hy; exact h1.names y hy), h2, Nat.le_trans h3 hu.size, h4.upd hub (fun k hk _ hf => (h2 k hf).elim (fun e => by omega) (fun e => by omega))⟩
theorem TdR.on (h : TdR w2 b mb lo hi P t W) {fv : Value} {l : List Int} (hf : ∀ V, Below w2.heap.size w2 V → IntsRd V fv l) : Calls Tryz.prog 26 #[.pointer (some ⟨b, 0, none⟩), fv] W fun e w' => e = .returned (.tuple #[]) ∧ ∃ t', OnAt t t' ∧ TdR w2 b mb lo hi P t' w' := by
  obtain ⟨L, h1, h2, h3, h4⟩ := h
  refine Calls.mono (TOn_any h1.tp (fun y hy => h1.names y hy) (fv := fv) (l := l) (fun V hV => hf V (h1.base.trans (hV.toBelow h1.base.size h1.above)))) ?_
  rintro e w' ⟨rfl, L', t', hat, hbl, hon, hu⟩
  have hF : ∀ k, TpF b mb L' k → TpF b mb L k := by
    rintro k (h | h | h)
    · exact .inl h
    · exact .inr (.inl h)
    · exact .inr (.inr (by rw [← hbl]; exact h))
  refine ⟨rfl, t', hon, L', h1.tape hat hu (fun k hk => .inl (by rw [hbl] at hk; exact hk)) (h1.names.of_names (fun n hn => .inl (by rw [onAt_names hon] at hn; exact hn))), fun k hk => h2 k (hF k hk), Nat.le_trans h3 hu.size, h4.upd hu (fun k hk _ hf => (h2 k hf).elim (fun e => by omega) (fun e => by omega))⟩
theorem TdR.openSt (h : TdR w2 b mb lo hi P t W) (hE : Env w2) {pre : List UInt8} {size : Int} (hp : 1 ≤ pre.length ∧ pre.length ≤ 16) (hs : 1 ≤ size ∧ size ≤ 1048576) {t' : Tp} (ho : openS t pre size = (t', some x, 0)) :
    Calls Tryz.prog 38 #[.pointer (some ⟨b, 0, none⟩), .string (bs pre), .int .i64 size] W fun e w' => ∃ ub, e = .returned (.tuple #[.pointer (some ⟨ub, 0, none⟩), .int .i64 0]) ∧ HdR w2 ub b mb lo hi P x t' w' := by
  obtain ⟨L, h1, h2, h3, h4⟩ := h
  refine Calls.mono (StOpen_any hE h1 hp hs) ?_
  rw [ho]
  rintro e w' ⟨L', hu, hL, htd, ub, S, rfl, hsd, hS⟩
  refine ⟨ub, rfl, L', S, hsd, fun k hk => ?_, Nat.le_trans h3 hu.size, h4.upd hu (fun k hk _ hf => (h2 k hf).elim (fun e => by omega) (fun e => by omega))⟩
  rcases hk with hk | hk
  · exact .inr (Nat.le_trans h3 (hS k hk))
  · exact (TpF.new hL k hk).elim (h2 k) (fun e => .inr (Nat.le_trans h3 e))
end

theorem Rd.take {w : World} {sz n c : Nat} {a : Option Addr} {m : Nat} {xs : List Value} (h : Rd w sz (.slice a n c) m xs) (k : Nat) (hk : k ≤ m) : Rd w sz (.slice a k c) k (xs.take (k * sz)) := by
  obtain ⟨h1, h2⟩ := h
  have hle : k * sz ≤ m * sz := Nat.mul_le_mul_right _ hk
  refine ⟨by rw [List.length_take, h1, Nat.min_eq_left hle], ?_⟩
  rcases h2 with ⟨e, h0⟩ | ⟨ad, cap, e, q1, q2, q3⟩
  · simp only [Value.slice.injEq] at e
    obtain ⟨rfl, rfl, rfl⟩ := e
    have hk0 : k = 0 := by omega
    subst hk0
    exact .inl ⟨rfl, rfl⟩
  · simp only [Value.slice.injEq] at e
    obtain ⟨rfl, rfl, rfl⟩ := e
    refine .inr ⟨ad, c, rfl, by omega, q2, fun j u hu => q3 j u ?_⟩
    rw [List.getElem?_take] at hu
    split at hu
    · exact hu
    · cases hu
theorem bCells_take (m : List (Value × Batch)) : ∀ k, bCells (m.take k) = (bCells m).take (k * 6) := by
  induction m with
  | nil => intro k; simp [bCells]
  | cons x m ih =>
    intro k
    cases k with
    | zero => simp [bCells]
    | succ k =>
      have := ih k
      simp only [bCells, List.take_succ_cons, List.flatMap_cons] at this ⊢
      rw [this, show (k + 1) * 6 = k * 6 + 6 from by omega]
      simp
theorem BsRd.take {w : World} {a : Option Addr} {n c : Nat} {l : List Batch} (h : BsRd w (.slice a n c) l) (k : Nat) (hk : k ≤ l.length) : BsRd w (.slice a k c) (l.take k) := by
  obtain ⟨m, rfl, h1, h2⟩ := h
  have hk : k ≤ m.length := by simpa using hk
  refine ⟨m.take k, by rw [List.map_take], ?_, fun x hx => h2 x (List.mem_of_mem_take hx)⟩
  have hl : (m.take k).length = k := by rw [List.length_take, Nat.min_eq_left hk]
  rw [hl, bCells_take]
  exact h1.take k hk
end Go.Proofs.YtcpaaleogmiamaaGreatDoor
