/- Memory beside a strand: rows of batches that are copied, grown and held; a tape alone beside a gathered row; heliographlaw07.begins. -/
import Derived.Test.YtcpaaleogmiamaaGreatDoorMp40
import Derived.Test.YtcpaaleogmiamaaGreatDoorMp42
namespace Go.Proofs.YtcpaaleogmiamaaGreatDoor
open Go.RowKit

/-- Batches whose words are told. -/
def BsM (w : World) (v : Value) (m : List (Value × Batch)) : Prop := Rd w 6 v m.length (bCells m) ∧ ∀ x ∈ m, RcsRd w x.1 x.2.recs
theorem BsM.rd {w : World} {v : Value} {m : List (Value × Batch)} (h : BsM w v m) : BsRd w v (m.map (·.2)) := ⟨m, rfl, h.1, h.2⟩
theorem BsIn.told {w : World} {S : Nat → Prop} {v : Value} {l : List Batch} (h : BsIn w S v l) : ∃ m, m.map (·.2) = l ∧ InS w S (fun V => BsM V v m) := by
  obtain ⟨m, h1, h2, h3⟩ := h
  exact ⟨m, h1, fun F V hF hu => ⟨h2 F V hF hu, fun x hx => h3 x hx F V hF hu⟩⟩
theorem InS.blk {w : World} {S : Nat → Prop} {k : Nat} {o : Obj} (hk : w.heap[k]? = some o) (hS : S k) : InS w S (fun V => V.heap[k]? = some o) := fun F V hF hu => (hu.block k (Array.getElem?_eq_some_iff.1 hk).1 (hF k hS)).trans hk
theorem cellB {A B : World} {p : Addr} {v : Value} (hb : Below A.heap.size A B) (h : A.cell? p = some v) : B.cell? p = some v := (hb.cell (p := p) (World.block_lt_of_cell? A _ h)).trans h

section
variable {w0 W W' : World} {X X' F : Nat → Prop} {P Q : World → Prop} {wv : Value} {l : List Batch}
theorem WnR.imp (h : WnR w0 W X P wv l) (hpq : ∀ V, P V → Q V) : WnR w0 W X Q wv l := by
  obtain ⟨m, T, h1, h2, h3, h4, h5, h6⟩ := h
  exact ⟨m, T, h1, h2, h3, h4, h5.imp hpq, h6⟩
/-- What has been laid since is held, too. -/
theorem WnR.hold (h : WnR w0 W X P wv l) (h0 : w0.heap.size ≤ W.heap.size) (hX : ∀ k, X k → k < W.heap.size) (hb : Below W.heap.size W W') (hq : InS W' (fun k => W.heap.size ≤ k ∧ k < W'.heap.size) Q) : WnR w0 W' X (fun V => P V ∧ Q V) wv l := by
  have hz := hb.size
  obtain ⟨m, T, h1, h2, h3, h4, h5, h6⟩ := h.below hb
  have hown : ∀ g, wv.ownBlock = some g → g < W.heap.size := fun g hg => by
    obtain ⟨m', T', -, h2', -⟩ := h
    exact (owns_lt h2' g hg).2
  refine ⟨m, fun k => T k ∨ (W.heap.size ≤ k ∧ k < W'.heap.size), h1, h2, fun g hg => ⟨(h3 g hg).1, fun ht => ht.elim (h3 g hg).2 (fun e => by have := hown g hg; omega)⟩, fun y hy => (h4 y hy).grow (fun k hk _ => .inl hk), (h5.grow (fun k hk _ => .inl hk)).and (hq.grow (fun k hk _ => .inr hk)), fun k hk => ?_⟩
  rcases hk with hk | hk
  · exact h6 k hk
  · exact ⟨fun hx => by have := hX k hx; omega, by omega, hk.2⟩
/-- A batch more, whose records are held. -/
theorem WnR.push {rv : Value} {b : Batch} (h : WnR w0 W X P wv l) (h0 : w0.heap.size ≤ W.heap.size) (hX : ∀ k, X k → k < W.heap.size) (hP : ∀ V, P V → RcsRd V rv b.recs) :
    ∃ xs : List Value, (∀ o, (W.alloc o).ownsRow w0.heap.size 40 6 wv l.length xs) ∧ ∀ g c w7 o, w7.ownsRow w0.heap.size 40 6 (.slice (some ⟨g, 0, none⟩) (l.length + 1) c) (l.length + 1) (xs ++ [.int .i64 b.base, .int .i64 b.count, .int .i64 b.prod, .int .i64 b.seq, .int .i64 b.time, rv]) → (W.alloc o).grownBy w7 wv.ownBlock →
      (wv.ownBlock = some g ∨ g = (W.alloc o).heap.size) → WnR w0 w7 X P (.slice (some ⟨g, 0, none⟩) (l.length + 1) c) (l ++ [b]) ∧ Upd (fun k => some k = wv.ownBlock) W w7 := by
  obtain ⟨m, T, rfl, h2, h3, h4, h5, h6⟩ := h
  have hown : ∀ g, wv.ownBlock = some g → g < W.heap.size := fun g hg => (owns_lt h2 g hg).2
  refine ⟨bCells m, fun o => ?_, ?_⟩
  · have := h2.alloc o
    simpa using this
  · intro g c w7 o k1 k2 k3
    have hu7 : Upd (fun k => some k = wv.ownBlock) W w7 := (upd_alloc _ W o).trans (upd_grown k2)
    have hz7 := hu7.size
    have e0 : (m.map (·.2)).length + 1 = (m ++ [(rv, b)]).length := by simp
    have e1 : bCells m ++ [.int .i64 b.base, .int .i64 b.count, .int .i64 b.prod, .int .i64 b.seq, .int .i64 b.time, rv] = bCells (m ++ [(rv, b)]) := by simp [bCells]
    rw [e0, e1] at k1
    have hTF : ∀ k, T k → k < W.heap.size → ¬ (some k = wv.ownBlock) := fun k hk _ e => (h3 k e.symm).2 hk
    refine ⟨⟨m ++ [(rv, b)], T, by simp, ?_, ?_, ?_, h5.upd hu7 hTF, fun k hk => ?_⟩, hu7⟩
    · rw [e0]; exact k1
    · intro q hq
      simp only [Value.ownBlock, Option.some.injEq] at hq
      subst hq
      rcases k3 with k3 | k3
      · exact h3 _ k3
      · have hs : W.heap.size ≤ g := by rw [k3]; simp
        exact ⟨fun hx => by have := hX g hx; omega, fun ht => by have := (h6 g ht).2.2; omega⟩
    · intro y hy
      rcases List.mem_append.1 hy with hy | hy
      · exact (h4 y hy).upd hu7 hTF
      · simp only [List.mem_singleton] at hy
        subst hy
        exact (h5.imp hP).upd hu7 hTF
    · obtain ⟨q1, q2, q3⟩ := h6 k hk
      exact ⟨q1, q2, by omega⟩
/-- A copy of the gathered row is held. -/
theorem WnR.copy (h : WnR w0 W X P wv l) (h0 : w0.heap.size ≤ W.heap.size) (hX : ∀ k, X k → k < W.heap.size) :
    ∃ news : List Value, (∀ W', Below W.heap.size W W' → Rd W' 6 wv l.length news) ∧ (∀ u ∈ news, u.oneCell' = true) ∧ ∀ a c w7, w7.ownsRow W.heap.size 40 6 (.slice a l.length c) l.length news → Below W.heap.size W w7 → WnR w0 w7 X (fun V => BsRd V (.slice a l.length c) l) wv l := by
  obtain ⟨m, T, rfl, h2, h3, h4, h5, h6⟩ := h
  have hown : ∀ g, wv.ownBlock = some g → g < W.heap.size := fun g hg => (owns_lt h2 g hg).2
  have e0 : (m.map (·.2)).length = m.length := by simp
  refine ⟨bCells m, fun W' hb => ?_, one_bs (fun x hx => rd_one (h4 x hx).here), ?_⟩
  · rw [e0]
    exact (Sl.of_owns (owns_upd h2 (Upd.of_below (F := fun _ => False) hb) (fun _ _ h => h))).rd
  · intro a c w7 k1 hb
    have hz := hb.size
    rw [e0] at k1 ⊢
    have hnew : ∀ g, (Value.slice a m.length c).ownBlock = some g → W.heap.size ≤ g ∧ g < w7.heap.size := fun g hg => owns_lt k1 g hg
    refine ⟨m, fun k => T k ∨ (W.heap.size ≤ k ∧ k < w7.heap.size), rfl, owns_upd h2 (Upd.of_below (F := fun _ => False) hb) (fun _ _ h => h), fun g hg => ⟨(h3 g hg).1, fun ht => ht.elim (h3 g hg).2 (fun e => by have := hown g hg; omega)⟩, fun y hy => ((h4 y hy).below hb).grow (fun k hk _ => .inl hk), ?_, fun k hk => ?_⟩
    · exact fun F V hF hu => ⟨m, rfl, (owns_inS k1 (S := fun k => T k ∨ (W.heap.size ≤ k ∧ k < w7.heap.size)) (fun g hg => .inr (hnew g hg))) F V hF hu, fun y hy => (((h4 y hy).below hb).grow (fun k hk _ => .inl hk)) F V hF hu⟩
    · rcases hk with hk | hk
      · obtain ⟨q1, q2, q3⟩ := h6 k hk
        exact ⟨q1, q2, by omega⟩
      · exact ⟨fun hx => by have := hX k hx; omega, by omega, hk.2⟩
/-- The gathered row is a copy of one that is held. -/
theorem WnR.seat {m : List (Value × Batch)} {v : Value} (h : WnR w0 W X P wv l) (h0 : w0.heap.size ≤ W.heap.size) (hX : ∀ k, X k → k < W.heap.size) (hP : ∀ V, P V → BsM V v m) :
    (∀ u ∈ bCells m, u.oneCell' = true) ∧ ∀ a c w7, w7.ownsRow W.heap.size 40 6 (.slice a m.length c) m.length (bCells m) → Below W.heap.size W w7 → WnR w0 w7 X (fun V => BsRd V v (m.map (·.2))) (.slice a m.length c) (m.map (·.2)) := by
  have hPW := hP W h.p
  obtain ⟨m0, T, -, -, -, -, h5, h6⟩ := h
  refine ⟨one_bs (fun x hx => rd_one (hPW.2 x hx)), ?_⟩
  intro a c w7 k1 hb
  have hz := hb.size
  have hnew : ∀ g, (Value.slice a m.length c).ownBlock = some g → W.heap.size ≤ g ∧ g < w7.heap.size := fun g hg => owns_lt k1 g hg
  refine ⟨m, T, rfl, owns_mono k1 h0, fun g hg => ⟨fun hx => by have := hX g hx; have := hnew g hg; omega, fun ht => by have := (h6 g ht).2.2; have := hnew g hg; omega⟩, fun y hy => ((h5.imp (fun V hV => (hP V hV).2 y hy)).below hb), (h5.imp (fun V hV => (hP V hV).rd)).below hb, fun k hk => ?_⟩
  obtain ⟨q1, q2, q3⟩ := h6 k hk
  exact ⟨q1, q2, by omega⟩
end

/-! ### Beside a strand -/
section
variable {w2 W W' : World} {sb b mb : Nat} {P Q : World → Prop} {wv : Value} {l : List Batch} {x : St} {t : Tp}
theorem DqR.imp (h : DqR w2 sb b mb P wv l x t W) (hpq : ∀ V, P V → Q V) : DqR w2 sb b mb Q wv l x t W := by
  obtain ⟨L, S, h1, h2⟩ := h
  exact ⟨L, S, h1, h2.imp hpq⟩
theorem DqR.rd (h : DqR w2 sb b mb P wv l x t W) : BsRd W wv l := by
  obtain ⟨L, S, h1, h2⟩ := h
  exact h2.rd
theorem DqR.shape (h : DqR w2 sb b mb P wv l x t W) : ∃ a c, wv = .slice a l.length c := by
  obtain ⟨L, S, h1, h2⟩ := h
  exact h2.shape
theorem DqR.hold (h : DqR w2 sb b mb P wv l x t W) (hb : Below W.heap.size W W') (hq : InS W' (fun k => W.heap.size ≤ k ∧ k < W'.heap.size) Q) : DqR w2 sb b mb (fun V => P V ∧ Q V) wv l x t W' := by
  obtain ⟨L, S, h1, h2⟩ := h
  exact ⟨L, S, h1.below hb, h2.hold h1.base.size h1.lt hb hq⟩
theorem DqR.push {rv : Value} {bt : Batch} (h : DqR w2 sb b mb P wv l x t W) (hP : ∀ V, P V → RcsRd V rv bt.recs) :
    ∃ xs : List Value, (∀ o, (W.alloc o).ownsRow w2.heap.size 40 6 wv l.length xs) ∧ ∀ g c w7 o, w7.ownsRow w2.heap.size 40 6 (.slice (some ⟨g, 0, none⟩) (l.length + 1) c) (l.length + 1) (xs ++ [.int .i64 bt.base, .int .i64 bt.count, .int .i64 bt.prod, .int .i64 bt.seq, .int .i64 bt.time, rv]) → (W.alloc o).grownBy w7 wv.ownBlock →
      (wv.ownBlock = some g ∨ g = (W.alloc o).heap.size) → DqR w2 sb b mb P (.slice (some ⟨g, 0, none⟩) (l.length + 1) c) (l ++ [bt]) x t w7 := by
  obtain ⟨L, S, h1, h2⟩ := h
  obtain ⟨xs, q1, q2⟩ := h2.push h1.base.size h1.lt hP
  refine ⟨xs, q1, fun g c w7 o k1 k2 k3 => ?_⟩
  obtain ⟨r1, r2⟩ := q2 g c w7 o k1 k2 k3
  exact ⟨L, S, h1.other r2 (fun q hq => ⟨fun hs => (h2.own q hq.symm).1 (.inl hs), fun hs => (h2.own q hq.symm).1 (.inr hs), (h2.own q hq.symm).2⟩), r1⟩
theorem DqR.copy (h : DqR w2 sb b mb P wv l x t W) :
    ∃ news : List Value, (∀ W', Below W.heap.size W W' → Rd W' 6 wv l.length news) ∧ (∀ u ∈ news, u.oneCell' = true) ∧ ∀ a c w7, w7.ownsRow W.heap.size 40 6 (.slice a l.length c) l.length news → Below W.heap.size W w7 → DqR w2 sb b mb (fun V => BsRd V (.slice a l.length c) l) wv l x t w7 := by
  obtain ⟨L, S, h1, h2⟩ := h
  obtain ⟨news, q1, q2, q3⟩ := h2.copy h1.base.size h1.lt
  exact ⟨news, q1, q2, fun a c w7 k1 hb => ⟨L, S, h1.below hb, q3 a c w7 k1 hb⟩⟩
theorem DqR.seat {m : List (Value × Batch)} {v : Value} (h : DqR w2 sb b mb P wv l x t W) (hP : ∀ V, P V → BsM V v m) :
    (∀ u ∈ bCells m, u.oneCell' = true) ∧ ∀ a c w7, w7.ownsRow W.heap.size 40 6 (.slice a m.length c) m.length (bCells m) → Below W.heap.size W w7 → DqR w2 sb b mb (fun V => BsRd V v (m.map (·.2))) (.slice a m.length c) (m.map (·.2)) x t w7 := by
  obtain ⟨L, S, h1, h2⟩ := h
  obtain ⟨q1, q2⟩ := h2.seat h1.base.size h1.lt hP
  exact ⟨q1, fun a c w7 k1 hb => ⟨L, S, h1.below hb, q2 a c w7 k1 hb⟩⟩
/-- All batches are held. -/
theorem DqR.allHd (h : DqR w2 sb b mb P wv l x t W) (hr : Row x.segs) (hl : x.segs.length ≤ 1000) (ha : (allB x.segs).length ≤ 1000) : Calls Tryz.prog 39 #[.pointer (some ⟨sb, 0, none⟩)] W fun e w' => ∃ (va : Option Addr) (vc : Nat) (m : List (Value × Batch)), e = .returned (.slice va (allB x.segs).length vc) ∧ m.map (·.2) = allB x.segs ∧ DqR w2 sb b mb (fun V => P V ∧ BsM V (.slice va (allB x.segs).length vc) m) wv l x t w' := by
  have hk := h
  obtain ⟨L, S, h1, h2⟩ := h
  obtain ⟨gv, m, D, hi⟩ := h1.st
  obtain ⟨n, hn, hc⟩ := hr.chain
  refine Calls.mono (L7all_any hi h1.ok (by omega) (fun g hg => by have := mem_allB hg; omega) (by omega) hc.chained.good) ?_
  rintro e w' ⟨a, c, rfl, hb, hbl⟩
  obtain ⟨m, hm, hin⟩ := hb.told
  exact ⟨a, c, m, rfl, hm, hk.hold hbl (hin.grow (fun k h1 h2 => ⟨h1, h2⟩))⟩
/-- The tape alone. -/
def TqR (w2 : World) (b mb : Nat) (P : World → Prop) (wv : Value) (l : List Batch) (t : Tp) (W : World) : Prop :=
  ∃ L : TpL, Td w2 W b mb L t ∧ WnR w2 W (TpF b mb L) P wv l
theorem DqR.tqR (h : DqR w2 sb b mb P wv l x t W) : TqR w2 b mb P wv l t W := by
  obtain ⟨L, S, h1, h2⟩ := h
  exact ⟨L, h1.td, h2.upd (F := fun _ => False) (Upd.refl _ _) (fun _ hk => hk.elim) (fun k hk => .inl (.inr hk))⟩
theorem TqR.imp (h : TqR w2 b mb P wv l t W) (hpq : ∀ V, P V → Q V) : TqR w2 b mb Q wv l t W := by
  obtain ⟨L, h1, h2⟩ := h
  exact ⟨L, h1, h2.imp hpq⟩
theorem TqR.shape (h : TqR w2 b mb P wv l t W) : ∃ a c, wv = .slice a l.length c := by
  obtain ⟨L, h1, h2⟩ := h
  exact h2.shape
theorem TqR.p (h : TqR w2 b mb P wv l t W) : P W := by
  obtain ⟨L, h1, h2⟩ := h
  exact h2.p
theorem TqR.base (h : TqR w2 b mb P wv l t W) : Below w2.heap.size w2 W := by
  obtain ⟨L, h1, h2⟩ := h
  exact h1.base
theorem TqR.off (h : TqR w2 b mb P wv l t W) : Calls Tryz.prog 25 #[.pointer (some ⟨b, 0, none⟩)] W fun e w' => e = .returned (.tuple #[]) ∧ TqR w2 b mb P wv l (offT t) w' := by
  obtain ⟨L, h1, h2⟩ := h
  refine Calls.mono (TOff_any h1.tp) ?_
  rintro e w' ⟨rfl, hat, hu⟩
  have hub := hu.or (G := TpF b mb L) (fun k e => .inl e)
  exact ⟨rfl, L, h1.tape hat hub (fun k hk => .inl hk) (by intro y hy; rw [offT_files] at hy; exact h1.names y hy), h2.upd hub (fun k hk => .inl hk) (fun k hk => .inl hk)⟩
theorem TqR.on (h : TqR w2 b mb P wv l t W) {fv : Value} {fl : List Int} (hf : ∀ V, Below w2.heap.size w2 V → IntsRd V fv fl) : Calls Tryz.prog 26 #[.pointer (some ⟨b, 0, none⟩), fv] W fun e w' => e = .returned (.tuple #[]) ∧ ∃ t', OnAt t t' ∧ TqR w2 b mb P wv l t' w' := by
  obtain ⟨L, h1, h2⟩ := h
  refine Calls.mono (TOn_any h1.tp (fun y hy => h1.names y hy) (fv := fv) (l := fl) (fun V hV => hf V (h1.base.trans (hV.toBelow h1.base.size h1.above)))) ?_
  rintro e w' ⟨rfl, L', t', hat, hbl, hon, hu⟩
  have hF : ∀ k, TpF b mb L' k → TpF b mb L k := by
    rintro k (h | h | h)
    · exact .inl h
    · exact .inr (.inl h)
    · exact .inr (.inr (by rw [← hbl]; exact h))
  exact ⟨rfl, t', hon, L', h1.tape hat hu (fun k hk => .inl (by rw [hbl] at hk; exact hk)) (h1.names.of_names (fun n hn => .inl (by rw [onAt_names hon] at hn; exact hn))), h2.upd hu (fun k hk => .inl hk) (fun k hk => .inl (hF k hk))⟩
theorem TqR.openSt (h : TqR w2 b mb P wv l t W) (hE : Env w2) {pre : List UInt8} {size : Int} (hp : 1 ≤ pre.length ∧ pre.length ≤ 16) (hs : 1 ≤ size ∧ size ≤ 1048576) {t' : Tp} (ho : openS t pre size = (t', some x, 0)) :
    Calls Tryz.prog 38 #[.pointer (some ⟨b, 0, none⟩), .string (bs pre), .int .i64 size] W fun e w' => ∃ ub, e = .returned (.tuple #[.pointer (some ⟨ub, 0, none⟩), .int .i64 0]) ∧ DqR w2 ub b mb P wv l x t' w' := by
  obtain ⟨L, h1, h2⟩ := h
  refine Calls.mono (StOpen_any hE h1 hp hs) ?_
  rw [ho]
  rintro e w' ⟨L', hu, hL, htd, ub, S, rfl, hsd, hS⟩
  refine ⟨ub, rfl, L', S, hsd, h2.upd hu (fun k hk => .inl hk) (fun k hk => ?_)⟩
  rcases hk with hk | hk
  · exact .inr (hS k hk)
  · exact TpF.new hL k hk
theorem DqR.arm (h : DqR w2 sb b mb P wv l x t W) {n : Int} (hn : I64 n) : Calls Tryz.prog 23 #[.pointer (some ⟨b, 0, none⟩), .int .i64 n] W fun e w' => e = .returned (.tuple #[]) ∧ DqR w2 sb b mb P wv l x { t with armed := n.toNat } w' := by
  obtain ⟨L, S, h1, h2⟩ := h
  refine Calls.mono (TArm_any h1.tp hn) ?_
  rintro e w' ⟨rfl, hat, hu⟩
  have hub := hu.or (G := TpF b mb L) (fun k e => .inl e)
  exact ⟨rfl, L, S, h1.tape hat hub (fun k hk => .inl hk) h1.names, h2.upd hub (fun k hk => .inl (.inr hk)) (fun k hk => .inl hk)⟩
end

/-! ### begins -/
set_option maxRecDepth 100000 in
set_option maxHeartbeats 2000000 in
theorem L7begins_any {w : World} {va vb : Value} {l m : List Batch} (ha : BsRd w va l) (hb : BsRd w vb m) (he : m.take l.length = l) : Calls Tryz.prog 40 #[va, vb] w fun e w' => e = .returned (.bool true) ∧ Below w.heap.size w w' := by
  obtain ⟨aa, ac, rfl, hac, hal, -⟩ := ha.cells
  obtain ⟨ba, bc, rfl, hbc, hbl, -⟩ := hb.cells
  have hle : l.length ≤ m.length := by
    have h1 := congrArg List.length he
    rw [List.length_take] at h1
    omega
  have hsm := Batches7_same ha (u := .slice ba l.length bc) (by have h1 := hb.take l.length hle; rw [he] at h1; exact h1)
  obtain ⟨n, hn⟩ : ∃ n, l.length = n := ⟨_, rfl⟩
  obtain ⟨k, hk⟩ : ∃ k, m.length = k := ⟨_, rfl⟩
  rw [hn] at hsm hle hac hal ⊢
  rw [hk] at hle hbc hbl ⊢
  have HSM := Lib.hid hsm
  have j1 : (n : Int) ≤ (k : Int) := by omega
  have j2 : (n : Int) ≤ (bc : Int) := by omega
  have j3 : (n : Int) ≤ 9223372036854775807 := by unfold maxLen at hal; omega
  have j4 : (k : Int) ≤ 9223372036854775807 := by unfold maxLen at hbl; omega
  clear ha hb he hsm hle hn hk hac hbc hal hbl
  go_enter Tryz.func40, Tryz.ntmps40
  go_wp2_with fail
  refine HSM.out.mono ?_
  rintro en w1 ⟨rfl, hb1⟩
  go_wp2_with fail
  go_ret
  exact ⟨rfl, hb1⟩
end Go.Proofs.YtcpaaleogmiamaaGreatDoor
