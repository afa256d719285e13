/- The walks of strand.Batches and strand.Read. -/
import Derived.Test.YtcpaaleogmiamaaGreatDoorMp30
namespace Go.Proofs.YtcpaaleogmiamaaGreatDoor
open Go.RowKit
section
attribute [local go_sem] Oper.semAt_some

theorem StBatches_any (p : Option Addr) (off : Int) (w : World) : Calls Tryz.prog 93 #[.pointer p, .int .i64 off] w fun e w' =>
    e = .returned (.func (.func 149) #[] #[.pointer (some ⟨w.heap.size, 0, none⟩), .pointer (some ⟨w.heap.size + 1, 0, none⟩)]) ∧ w' = (w.alloc (.cells #[.pointer p] 74)).alloc (.cells #[.int .i64 off] 3) := by
  go_enter Tryz.func93, Tryz.ntmps93
  go_wp2
  go_ret
  exact ⟨rfl, rfl⟩

def RdTo (w : World) (R : List Rec) (e : Ending) (w' : World) : Prop := ∃ v, e = .returned v ∧ w'.ownsRow w.heap.size 84 4 v R.length (recCells R) ∧ Below w.heap.size w w'

def outF (off : Int) (pre : List (Value × Batch)) : List Rec := (recsB (pre.map (·.2))).filter (fun x => decide (off ≤ x.off))
theorem outF_snoc (off : Int) (pre : List (Value × Batch)) (x : Value × Batch) : outF off (pre ++ [x]) = outF off pre ++ x.2.recs.filter (fun x => decide (off ≤ x.off)) := by simp [outF, recsB]
/-- Between two rounds of Read. -/
structure RdI (n : Nat) (off most : Int) (W0 : World) (C : Nat) (pre : List (Value × Batch)) (A : World) : Prop where
  b0 : A.heap[n]? = some (.cells #[.int .i64 off] 3 (0, 0))
  b1 : A.heap[n + 1]? = some (.cells #[.int .i64 most] 3 (0, 0))
  b2 : A.heap[n + 2]? = some (.cells #[.slice none 0 0] 38 (0, 0))
  out : ∃ ov, A.heap[n + 3]? = some (.cells #[ov] 38 (0, 0)) ∧ A.ownsRow C 84 4 ov (outF off pre).length (recCells (outF off pre))
  le : (outF off pre).length ≤ most.toNat
  c : W0.heap.size ≤ C
  upd : Upd (fun k => k = n + 2 ∨ k = n + 3) W0 A
/-- Where a round has left by a return. -/
def RdX (n : Nat) (off most : Int) (W0 : World) (c : Code) (C : Nat) (pre : List (Value × Batch)) (A : World) : Prop :=
  (c = .ret ∧ most.toNat ≤ (outF off pre).length) ∧ (∃ ov, A.heap[n + 2]? = some (.cells #[ov] 38 (0, 0)) ∧ A.ownsRow C 84 4 ov ((outF off pre).take most.toNat).length (recCells ((outF off pre).take most.toNat))) ∧ W0.heap.size ≤ C ∧ Upd (fun k => k = n + 2 ∨ k = n + 3) W0 A

theorem heap_below {A B : World} {k : Nat} {o : Obj} (hb : Below A.heap.size A B) (hk : A.heap[k]? = some o) : B.heap[k]? = some o := (hb.block _ (Array.getElem?_eq_some_iff.1 hk).1).trans hk
theorem heap_put {A : World} {k l : Nat} {o p o' : Obj} (hk : A.heap[k]? = some o) (hl : A.heap[l]? = some p) (ho : o.isCells = true) (hp : p.isCells = false) : (A.putObj l o').heap[k]? = some o :=
  (World.putObj_heap_other (fun e => by subst e; rw [hk] at hl; cases hl; rw [ho] at hp; cases hp)).trans hk
theorem owns_put {A : World} {N e size : Nat} {v : Value} {n : Nat} {xs : List Value} (h : A.ownsRow N e size v n xs) {l : Nat} {o o' : Obj} (hl : A.heap[l]? = some o) (ho : o.isCells = false) : (A.putObj l o').ownsRow N e size v n xs :=
  owns_upd h (upd_putObj A l o') (fun g hg e => by
    obtain ⟨cur, hc⟩ := owns_kind3 h g hg
    rw [e, hl] at hc
    cases hc
    cases ho)
theorem upd_put_out {F : Nat → Prop} {W A : World} (h : Upd F W A) {l : Nat} (o : Obj) (hl : W.heap.size ≤ l) : Upd F W (A.putObj l o) :=
  ((h.mono (fun _ _ h => Or.inl h)).trans ((upd_putObj A l o).mono (fun k _ e => .inr (by omega))) : Upd (fun k => F k ∨ W.heap.size ≤ k) W (A.putObj l o)).mono (fun k hk h => h.elim id (fun h => by omega))
theorem RdI.below {n : Nat} {off most : Int} {W0 : World} {C : Nat} {pre : List (Value × Batch)} {A B : World} (h : RdI n off most W0 C pre A) (hb : Below A.heap.size A B) : RdI n off most W0 C pre B := by
  obtain ⟨ov, h1, h2⟩ := h.out
  exact ⟨heap_below hb h.b0, heap_below hb h.b1, heap_below hb h.b2, ⟨ov, heap_below hb h1, owns_upd h2 (Upd.of_below (F := fun _ => False) hb) (fun _ _ h => h)⟩, h.le, h.c, h.upd.trans (Upd.of_below hb)⟩
theorem RdI.put {n : Nat} {off most : Int} {W0 : World} {C : Nat} {pre : List (Value × Batch)} {A : World} (h : RdI n off most W0 C pre A) {l : Nat} {o o' : Obj} (hw : W0.heap.size ≤ l) (hl : A.heap[l]? = some o) (ho : o.isCells = false) : RdI n off most W0 C pre (A.putObj l o') := by
  obtain ⟨ov, h1, h2⟩ := h.out
  exact ⟨heap_put h.b0 hl rfl ho, heap_put h.b1 hl rfl ho, heap_put h.b2 hl rfl ho, ⟨ov, heap_put h1 hl rfl ho, owns_put h2 hl ho⟩, h.le, h.c, upd_put_out h.upd _ hw⟩
theorem RdX.below {n : Nat} {off most : Int} {W0 : World} {c : Code} {C : Nat} {pre : List (Value × Batch)} {A B : World} (h : RdX n off most W0 c C pre A) (hb : Below A.heap.size A B) : RdX n off most W0 c C pre B := by
  obtain ⟨h0, ⟨ov, h1, h2⟩, h3⟩ := h
  exact ⟨h0, ⟨ov, heap_below hb h1, owns_upd h2 (Upd.of_below (F := fun _ => False) hb) (fun _ _ h => h)⟩, h3.1, h3.2.trans (Upd.of_below hb)⟩
theorem RdX.put {n : Nat} {off most : Int} {W0 : World} {c : Code} {C : Nat} {pre : List (Value × Batch)} {A : World} (h : RdX n off most W0 c C pre A) {l : Nat} {o o' : Obj} (hw : W0.heap.size ≤ l) (hl : A.heap[l]? = some o) (ho : o.isCells = false) : RdX n off most W0 c C pre (A.putObj l o') := by
  obtain ⟨h0, ⟨ov, h1, h2⟩, h3⟩ := h
  exact ⟨h0, ⟨ov, heap_put h1 hl rfl ho, owns_put h2 hl ho⟩, h3.1, upd_put_out h3.2 _ hw⟩

theorem recsB_filter_le (p : Batch → Bool) : ∀ (l : List Batch), (recsB (l.filter p)).length ≤ (recsB l).length
  | [] => Nat.le_refl _
  | b :: l => by
    have ih := recsB_filter_le p l
    simp only [recsB] at ih
    simp only [List.filter_cons]
    split
    · simp only [recsB, List.flatMap_cons, List.length_append]; omega
    · simp only [recsB, List.flatMap_cons, List.length_append]; omega
theorem al_at {w : World} {k : Nat} (o : Obj) (hk : w.heap.size = k) : (w.alloc o).heap[k]? = some o := hk ▸ heap_alloc_new w o
theorem al_old {w : World} {k : Nat} {o : Obj} (p : Obj) (h : w.heap[k]? = some o) : (w.alloc p).heap[k]? = some o := heap_below (below_alloc w p) h

/-- A row behind a variable that a round makes longer. -/
def RdS (A : World) (H : Nat → Prop) (C nb : Nat) (O : List Rec) (W : World) : Prop := ∃ ov, W.heap[nb]? = some (.cells #[ov] 38 (0, 0)) ∧ W.ownsRow C 84 4 ov O.length (recCells O) ∧ Upd H A W ∧ ∀ g, ov.ownBlock = some g → H g ∨ A.heap.size ≤ g
theorem RdS.below {A : World} {H : Nat → Prop} {C nb : Nat} {O : List Rec} {W W' : World} (h : RdS A H C nb O W) (hb : Below W.heap.size W W') : RdS A H C nb O W' := by
  obtain ⟨ov, h1, h2, h3, h4⟩ := h
  exact ⟨ov, heap_below hb h1, owns_upd h2 (Upd.of_below (F := fun _ => False) hb) (fun _ _ h => h), h3.trans (Upd.of_below hb), h4⟩
theorem RdS.more {A : World} {H : Nat → Prop} {C nb : Nat} {O : List Rec} {W : World} {ov : Value} (hnb : H nb) (h1 : W.heap[nb]? = some (.cells #[ov] 38 (0, 0))) (h2 : W.ownsRow C 84 4 ov O.length (recCells O)) (h3 : Upd H A W) (h4 : ∀ g, ov.ownBlock = some g → H g ∨ A.heap.size ≤ g)
    {ob : Obj} {W5 : World} {g cap : Nat} {r : Rec} (ho : W5.ownsRow C 84 4 (.slice (some ⟨g, 0, none⟩) (O.length + 1) cap) (O.length + 1) (recCells O ++ [.int .i64 r.off, .string r.key, .string r.val, .bool r.gone])) (hg : (W.alloc ob).grownBy W5 ov.ownBlock) (hat : ov.ownBlock = some g ∨ g = (W.alloc ob).heap.size) :
    W5.cell? ⟨nb, 0, none⟩ = some ov ∧ W5.frozen? ⟨nb, 0, none⟩ = false ∧ RdS A H C nb (O ++ [r]) (W5.setCell ⟨nb, 0, none⟩ (.slice (some ⟨g, 0, none⟩) (O.length + 1) cap)) := by
  have hu : Upd (fun c => some c = ov.ownBlock) W W5 := (upd_alloc _ W ob).trans (upd_grown hg)
  have hnlt := (Array.getElem?_eq_some_iff.1 h1).1
  have hne : ¬ some nb = ov.ownBlock := fun e => by
    obtain ⟨cur, hc⟩ := owns_kind3 h2 nb e.symm
    rw [h1] at hc
    simp at hc
  have h5 := (hu.block nb hnlt hne).trans h1
  have hset := upd_set1 W5 nb 0 (.slice (some ⟨g, 0, none⟩) (O.length + 1) cap)
  have hgn : ∀ q, (Value.slice (some ⟨g, 0, none⟩) (O.length + 1) cap).ownBlock = some q → q ≠ nb := fun q hq e => by
    obtain ⟨cur, hc⟩ := owns_kind3 ho q hq
    rw [e, h5] at hc
    simp at hc
  refine ⟨cells_of h5 0 _ rfl, frozen_of h5, _, setCell_same (o := 0) (v := .slice (some ⟨g, 0, none⟩) (O.length + 1) cap) h5, ?_, ?_, ?_⟩
  · have e : recCells (O ++ [r]) = recCells O ++ [.int .i64 r.off, .string r.key, .string r.val, .bool r.gone] := by simp [recCells, Rec.cells]
    rw [e, List.length_append]
    exact owns_upd ho hset (fun q hq e => hgn q hq e)
  · have hz := h3.size
    have hz2 := hu.size
    have h6 : Upd (fun k => H k ∨ A.heap.size ≤ k) A (W5.setCell ⟨nb, 0, none⟩ (.slice (some ⟨g, 0, none⟩) (O.length + 1) cap)) := ((h3.mono (fun _ _ h => Or.inl h)).trans (hu.mono (fun k _ e => h4 k e.symm))).trans (hset.mono (fun k _ e => .inl (by rw [e]; exact hnb)))
    exact h6.mono (fun k hk h => h.elim id (fun h => by omega))
  · intro q hq
    simp only [Value.ownBlock, Option.some.injEq] at hq
    rcases hat with e | e
    · exact h4 q (by rw [e, hq])
    · right
      have := h3.size
      simp only [World.size_alloc] at e
      omega

theorem rd_fin {w wq A : World} {n C Dd : Nat} {o : Value} {R : List Rec} (hb : Below w.heap.size w wq) (hn : w.heap.size ≤ n) (hC : wq.heap.size ≤ C) (hu : Upd (fun k => k = n + 2 ∨ k = n + 3) wq A) (ho : A.heap[n + 2]? = some (.cells #[o] 38 (0, 0))) (hw : A.ownsRow C 84 4 o R.length (recCells R))
    (hD : wq.heap.size ≤ Dd) (hK : A.heap[Dd]? = some (.deferred (some []))) : A.heap[Dd]? = some (.deferred (some [])) ∧ (A.putObj Dd (.deferred none)).cell? ⟨n + 2, 0, none⟩ = some o ∧ RdTo w R (.returned o) (A.putObj Dd (.deferred none)) := by
  refine ⟨hK, cells_of (heap_put ho hK rfl rfl) 0 _ rfl, o, rfl, owns_mono (owns_put hw hK rfl) (Nat.le_trans hb.size hC), ?_⟩
  exact (hb.trans (hu.toBelow hb.size (fun k hk => by omega))).trans ((upd_putObj A Dd (.deferred none)).toBelow (Nat.le_trans hb.size hu.size) (fun k hk => by have := hb.size; omega))

set_option maxRecDepth 100000 in
set_option maxHeartbeats 4000000 in
theorem StRead_any {w : World} {S : Nat → Prop} {sb tb : Nat} {x : St} {gv : Value} {m : List (Value × Sg)} {D : Nat → Prop} (h : StIn w S sb tb x gv m D) (hok : StOk x) (hsl : x.segs.length ≤ 1000000) (hll : ∀ g ∈ x.segs, g.list.length ≤ 1000000) (hrl : (recsB (allB x.segs)).length ≤ 1000000) (off most : Int) :
    Calls Tryz.prog 34 #[.pointer (some ⟨sb, 0, none⟩), .int .i64 off, .int .i64 most] w (RdTo w (readF x.segs off most)) := by
  obtain ⟨R, hR⟩ : ∃ R, readF x.segs off most = R := ⟨_, rfl⟩
  rw [hR]
  refine (callsIn_wide (n := 9)).1 ?_
  refine callsIn_of_wp_marks Tryz.func34 rfl trivial ?_ rfl
  simp only [Tryz.ntmps34, List.size_toArray, List.length_cons, List.length_nil, Nat.reduceAdd, Nat.reduceSub, Array.replicate_succ, Array.replicate_zero, List.push_toArray, List.append_toArray, List.nil_append, List.cons_append]
  gi_wp2_with fail
  obtain ⟨n, hn⟩ : ∃ n, w.heap.size = n := ⟨_, rfl⟩
  refine ⟨trivial, (callsIn_wide.2 (StBatches_any _ off _)).mono ?_⟩
  rintro _ wq ⟨rfl, hwq⟩
  have hsz : wq.heap.size = n + 6 := by rw [hwq, ← hn]; simp
  have hbq : Below w.heap.size w wq := by
    rw [hwq]
    exact ((((((Below.refl _ w).alloc (Nat.le_refl _) _).alloc (by simp) _).alloc (by simp; omega) _).alloc (by simp; omega) _).alloc (by simp; omega) _).alloc (by simp; omega) _
  have g0 : wq.heap[n]? = some (.cells #[.int .i64 off] 3 (0, 0)) := by rw [hwq]; exact al_old _ (al_old _ (al_old _ (al_old _ (al_old _ (al_at _ hn)))))
  have g1 : wq.heap[n + 1]? = some (.cells #[.int .i64 most] 3 (0, 0)) := by rw [hwq]; exact al_old _ (al_old _ (al_old _ (al_old _ (al_at _ (by simp only [World.size_alloc]; omega)))))
  have g2 : wq.heap[n + 2]? = some (.cells #[.slice none 0 0] 38 (0, 0)) := by rw [hwq]; exact al_old _ (al_old _ (al_old _ (al_at _ (by simp only [World.size_alloc]; omega))))
  have g3 : wq.heap[n + 3]? = some (.cells #[.slice none 0 0] 38 (0, 0)) := by rw [hwq]; exact al_old _ (al_old _ (al_at _ (by simp only [World.size_alloc]; omega)))
  have g4 : wq.heap[n + 4]? = some (.cells #[.pointer (some ⟨sb, 0, none⟩)] 74 (0, 0)) := by rw [hwq]; exact al_old _ (al_at _ (by simp only [World.size_alloc]; omega))
  have g5 : wq.heap[n + 5]? = some (.cells #[.int .i64 off] 3 (0, 0)) := by rw [hwq]; exact al_at _ (by simp only [World.size_alloc]; omega)
  simp only [World.size_alloc, hn]
  have e1 : n + 1 + 1 = n + 2 := rfl
  have e2 : n + 2 + 1 = n + 3 := rfl
  have e3 : n + 3 + 1 = n + 4 := rfl
  have e4 : n + 4 + 1 = n + 5 := rfl
  rw [e1, e2, e3, e4]
  have hit := StIter_seq (h.below hbq) hok hsl hll (xb := n + 4) (ob := n + 5) (off := off) (cells_of g4 0 _ rfl) (cells_of g5 0 _ rfl) ⟨by omega, by omega⟩ (G := fun k => k = n + 2 ∨ k = n + 3) (fun k hk => ⟨by omega, fun hs => by have := h.lt k hs; omega, by omega, by omega⟩)
  have hrf : readF x.segs off most = ((recsB (batF x.segs off)).filter (fun x => decide (off ≤ x.off))).take most.toNat := rfl
  have hbl : (recsB (batF x.segs off)).length ≤ 1000000 := by
    refine Nat.le_trans ?_ hrl
    exact recsB_filter_le _ _
  have HWQ := Lib.hid (And.intro hbq (And.intro hsz hn))
  have HR := Lib.hid (hR.symm.trans hrf)
  have HBL := Lib.hid hbl
  clear hwq hbq hn hrf hbl hrl hll hsl h hok g4 g5 hR e1 e2 e3 e4
  gi_wp2_with fail
  have hG0 : ∀ A, Below wq.heap.size wq A → RdI n off most wq A.heap.size [] A := fun A hb =>
    ⟨heap_below hb g0, heap_below hb g1, heap_below hb g2, ⟨_, heap_below hb g3, World.ownsRow_nil _ _ _ _⟩, Nat.zero_le _, hb.size, Upd.of_below hb⟩
  refine wp_rangeP (n := 9) (gf := 149) (lb := #[.pointer (some ⟨n + 4, 0, none⟩), .pointer (some ⟨n + 5, 0, none⟩)]) rfl (enters_of Tryz.func149 (by kernel_rfl) rfl) hit (fun _ => rfl) (RdI n off most wq) (RdX n off most wq)
    (fun C s A B hi hb => hi.below hb) (fun c C s A B hi hb => hi.below hb) (fun C s A l o o' hi hl hk ho => hi.put hl hk ho) (fun c C s A l o o' hi hl hk ho => hi.put hl hk ho) (fun N y A l o o' hp _ hk ho => hp.put hk ho) hG0
    (fun C y a' A => ∃ bx, C ≤ bx ∧ A.heap[bx]? = some (.cells #[.int .i64 y.2.base, .int .i64 y.2.count, .int .i64 y.2.prod, .int .i64 y.2.seq, .int .i64 y.2.time, y.1] 40 (0, 0)) ∧
      a' = { tmps := #[.pointer (some ⟨sb, 0, none⟩), .int .i64 off, .int .i64 most, undef, .pointer (some ⟨n, 0, none⟩), .pointer (some ⟨n + 1, 0, none⟩), .pointer (some ⟨n + 2, 0, none⟩), .pointer (some ⟨n + 3, 0, none⟩), .pointer (some ⟨bx, 0, none⟩), undef, undef, .pointer (some ⟨sb, 0, none⟩), .int .i64 off, .func (.func 149) #[] #[.pointer (some ⟨n + 4, 0, none⟩), .pointer (some ⟨n + 5, 0, none⟩)], y.2.v y.1, undef, undef, undef, undef, undef, undef, undef, undef, undef, undef, undef, undef, undef, undef, undef, undef, undef, undef, undef, undef, undef, undef], defers := [] })
    (fun C y a' A l o o' hx _ hk ho => by obtain ⟨bx, h1, h2, h3⟩ := hx; exact ⟨bx, h1, heap_put h2 hk rfl ho, h3⟩) (fun N y A B hp hb => hp.below hb) ?assign ?body ?done ?stop
  case assign =>
    rintro l C pre ⟨rv, bt⟩ A0 A hC hCA hi hb hp
    replace hp : A.ownsRow A0.heap.size 84 4 rv bt.recs.length (recCells bt.recs) := hp
    obtain ⟨ra, rc, rfl, -⟩ := (Sl.of_owns hp).shape
    simp only [Batch.v]
    gi_wp2
    refine ⟨below_alloc _ _, A.heap.size, Nat.le_trans hCA hb.size, heap_alloc_new _ _, rfl⟩
  case body =>
    rintro l C pre ⟨rv, bt⟩ a' A0 A hC hCA hi hlw hlo hua hp ⟨bx, hbx, hxc, rfl⟩ ⟨rest, hrest, -⟩
    obtain ⟨ov0, ho0, hw0⟩ := hi.out
    obtain ⟨lo, hlo, hloc⟩ := hlo
    have hnl : ∀ {k : Nat} {o : Obj}, A0.heap[k]? = some o → o.isCells = true → k ≠ l := fun hk ho e => by
      subst e
      rw [hk] at hlo
      cases hlo
      rw [ho] at hloc
      cases hloc
    have up : ∀ {k : Nat} {o : Obj}, A0.heap[k]? = some o → o.isCells = true → A.heap[k]? = some o := fun hk ho => (hua.block _ (Array.getElem?_eq_some_iff.1 hk).1 (hnl hk ho)).trans hk
    have a0 := up hi.b0 rfl
    have a1 := up hi.b1 rfl
    have a2 := up hi.b2 rfl
    have a3 := up ho0 rfl
    have hw1 : A.ownsRow C 84 4 ov0 (outF off pre).length (recCells (outF off pre)) := owns_upd hw0 hua (fun g hg e => by
      obtain ⟨cur, hc⟩ := owns_kind3 hw0 g hg
      exact hnl hc rfl e)
    have hov0 : ∀ g, ov0.ownBlock = some g → C ≤ g ∧ g < A0.heap.size := owns_lt hw0
    have hud : Upd (fun k => k = n + 2 ∨ k = n + 3) wq A := by
      have h1 := (hi.upd.mono (fun _ _ h => Or.inl h)).trans (hua.mono (fun k _ e => .inr e) : Upd (fun k => (k = n + 2 ∨ k = n + 3) ∨ k = l) A0 A)
      exact h1.mono (fun k hk h => h.elim id (fun e => by omega))
    replace hp : A.ownsRow A0.heap.size 84 4 rv bt.recs.length (recCells bt.recs) := hp
    obtain ⟨ra, rc, rfl, -⟩ := (Sl.of_owns hp).shape
    simp only at hxc ⊢
    have hrv : ∀ g, (Value.slice ra bt.recs.length rc).ownBlock = some g → A0.heap.size ≤ g := fun g hg => (owns_lt hp g hg).1
    have hle := hi.le
    -- what the round may write
    obtain ⟨H, hH⟩ : ∃ H : Nat → Prop, H = fun k => k = n + 3 ∨ ov0.ownBlock = some k := ⟨_, rfl⟩
    have hHc : ∀ k, H k → ((k = n + 2 ∨ k = n + 3) ∨ C ≤ k) ∧ ∃ cs t f, A.heap[k]? = some (.cells cs t f) := by
      rw [hH]
      rintro k (rfl | hk)
      · exact ⟨.inl (.inr rfl), _, _, _, a3⟩
      · obtain ⟨cur, hc⟩ := owns_kind3 hw1 k hk
        exact ⟨.inr (hov0 k hk).1, _, _, _, hc⟩
    have hnH : ∀ k, (k < n + 2 ∨ k = n + 2 ∨ k = bx ∨ (Value.slice ra bt.recs.length rc).ownBlock = some k) → ¬ H k := by
      rw [hH]
      have hz := HWQ.out.2.1
      rintro k hk (rfl | hh)
      · rcases hk with hk | hk | hk | hk
        · omega
        · omega
        · omega
        · have := hrv _ hk; omega
      · have h1 := hov0 k hh
        rcases hk with hk | hk | hk | hk
        · omega
        · omega
        · obtain ⟨cur, hc⟩ := owns_kind3 hw1 k hh
          rw [hk, hxc] at hc
          simp at hc
        · have := hrv _ hk; omega
    have hstart : RdS A H C (n + 3) (outF off pre ++ (bt.recs.take 0).filter (fun x => decide (off ≤ x.off))) A := by
      rw [List.take_zero, List.filter_nil, List.append_nil]
      exact ⟨ov0, a3, hw1, Upd.refl _ _, fun g hg => .inl (by rw [hH]; exact .inr hg)⟩
    have hbound : (outF off pre ++ bt.recs.filter (fun x => decide (off ≤ x.off))).length ≤ 1000000 := by
      have h1 := HBL.out
      rw [← hrest] at h1
      have h2 : (outF off pre ++ bt.recs.filter (fun x => decide (off ≤ x.off))).length ≤ (recsB (List.map (fun x => x.snd) (pre ++ [(Value.slice ra bt.recs.length rc, bt)]))).length := by
        rw [← outF_snoc off pre (Value.slice ra bt.recs.length rc, bt)]
        exact List.length_filter_le _ _
      have h3 : (recsB (List.map (fun x => x.snd) (pre ++ [(Value.slice ra bt.recs.length rc, bt)]) ++ rest)).length = (recsB (List.map (fun x => x.snd) (pre ++ [(Value.slice ra bt.recs.length rc, bt)]))).length + (recsB rest).length := by simp [recsB]; omega
      omega
    have hrecs : ∀ W, Upd H A W → ∀ j (hj : j < bt.recs.length), ∃ rb ro, ra = some ⟨rb, ro, none⟩ ∧ W.cell? ⟨rb, ro + j * 4, none⟩ = some (.int .i64 bt.recs[j].off) ∧ W.cell? ⟨rb, ro + j * 4 + 1, none⟩ = some (.string bt.recs[j].key) ∧
        W.cell? ⟨rb, ro + j * 4 + 2, none⟩ = some (.string bt.recs[j].val) ∧ W.cell? ⟨rb, ro + j * 4 + 3, none⟩ = some (.bool bt.recs[j].gone) := by
      intro W hu j hj
      have h1 := owns_upd hp hu (fun g hg hh => hnH g (.inr (.inr (.inr hg))) hh)
      obtain ⟨rb, ro, cap, e, -, -, -, hc⟩ := Rd.at (Sl.of_owns h1).rd (by omega)
      simp only [Value.slice.injEq, true_and] at e
      obtain ⟨q0, q1, q2, q3⟩ := recCells_get bt.recs j hj
      exact ⟨rb, ro, e.1, hc _ _ q0, hc (j * 4 + 1) _ q1, hc (j * 4 + 2) _ q2, hc (j * 4 + 3) _ q3⟩
    have hfix : ∀ W, Upd H A W → W.cell? ⟨n, 0, none⟩ = some (.int .i64 off) ∧ W.cell? ⟨n + 1, 0, none⟩ = some (.int .i64 most) ∧ W.cell? ⟨n + 2, 0, none⟩ = some (.slice none 0 0) ∧ W.frozen? ⟨n + 2, 0, none⟩ = false := fun W hu =>
      ⟨cells_of ((hu.block n (Array.getElem?_eq_some_iff.1 a0).1 (hnH n (.inl (by omega)))).trans a0) 0 _ rfl, cells_of ((hu.block (n + 1) (Array.getElem?_eq_some_iff.1 a1).1 (hnH (n + 1) (.inl (by omega)))).trans a1) 0 _ rfl,
        cells_of ((hu.block (n + 2) (Array.getElem?_eq_some_iff.1 a2).1 (hnH (n + 2) (.inr (.inl rfl)))).trans a2) 0 _ rfl, frozen_of ((hu.block (n + 2) (Array.getElem?_eq_some_iff.1 a2).1 (hnH (n + 2) (.inr (.inl rfl)))).trans a2)⟩
    have x5 : A.cell? ⟨bx, 5, none⟩ = some (.slice ra bt.recs.length rc) := cells_of hxc 5 _ rfl
    have hml := (Sl.of_owns hp).rd.maxlen
    have hml2 : (bt.recs.length : Int) ≤ 9223372036854775807 := by unfold maxLen at hml; omega
    -- the round's ways out
    have hgo : ∀ W, RdS A H C (n + 3) (outF off pre ++ (bt.recs.take bt.recs.length).filter (fun x => decide (off ≤ x.off))) W → (outF off pre ++ (bt.recs.take bt.recs.length).filter (fun x => decide (off ≤ x.off))).length ≤ most.toNat →
        RoundUpd (fun k => k = n + 2 ∨ k = n + 3) C A W ∧ RdI n off most wq C (pre ++ [(Value.slice ra bt.recs.length rc, bt)]) W := by
      intro W hs hl
      obtain ⟨ov, s1, s2, s3, s4⟩ := hs
      rw [List.take_length] at hl s2
      have eo := outF_snoc off pre (Value.slice ra bt.recs.length rc, bt)
      simp only at eo
      refine ⟨⟨H, s3, hHc⟩, ⟨(s3.block n (Array.getElem?_eq_some_iff.1 a0).1 (hnH n (.inl (by omega)))).trans a0, (s3.block (n + 1) (Array.getElem?_eq_some_iff.1 a1).1 (hnH (n + 1) (.inl (by omega)))).trans a1, (s3.block (n + 2) (Array.getElem?_eq_some_iff.1 a2).1 (hnH (n + 2) (.inr (.inl rfl)))).trans a2, ⟨ov, s1, by rw [eo]; exact s2⟩, by rw [eo]; exact hl, hC, ?_⟩⟩
      have h1 := (hud.mono (fun _ _ h => Or.inl h)).trans (s3.mono (fun k _ hk => (hHc k hk).1.elim .inl .inr) : Upd (fun k => (k = n + 2 ∨ k = n + 3) ∨ C ≤ k) A W)
      exact h1.mono (fun k hk h => h.elim id (fun e => by omega))
    have hout : ∀ j W ov, j ≤ bt.recs.length → W.heap[n + 3]? = some (.cells #[ov] 38 (0, 0)) → W.ownsRow C 84 4 ov (outF off pre ++ (bt.recs.take j).filter (fun x => decide (off ≤ x.off))).length (recCells (outF off pre ++ (bt.recs.take j).filter (fun x => decide (off ≤ x.off)))) → Upd H A W →
        (outF off pre ++ (bt.recs.take j).filter (fun x => decide (off ≤ x.off))).length ≤ most.toNat → most ≤ ((outF off pre ++ (bt.recs.take j).filter (fun x => decide (off ≤ x.off))).length : Int) →
        RoundUpd (fun k => k = n + 2 ∨ k = n + 3) C A (W.setCell ⟨n + 2, 0, none⟩ ov) ∧ RdX n off most wq .ret C (pre ++ [(Value.slice ra bt.recs.length rc, bt)]) (W.setCell ⟨n + 2, 0, none⟩ ov) := by
      intro j W ov hj s1 s2 s3 hl hm
      have eo := outF_snoc off pre (Value.slice ra bt.recs.length rc, bt)
      simp only at eo
      have ea : outF off pre ++ bt.recs.filter (fun x => decide (off ≤ x.off)) = (outF off pre ++ (bt.recs.take j).filter (fun x => decide (off ≤ x.off))) ++ (bt.recs.drop j).filter (fun x => decide (off ≤ x.off)) := by
        rw [List.append_assoc, ← List.filter_append, List.take_append_drop]
      have et : (outF off (pre ++ [(Value.slice ra bt.recs.length rc, bt)])).take most.toNat = outF off pre ++ (bt.recs.take j).filter (fun x => decide (off ≤ x.off)) := by
        rw [eo, ea]
        have : (outF off pre ++ (bt.recs.take j).filter (fun x => decide (off ≤ x.off))).length = most.toNat := by omega
        rw [List.take_append_of_le_length (by omega), List.take_of_length_le (by omega)]
      have hset := upd_set1 W (n + 2) 0 ov
      have g2 : W.heap[n + 2]? = some (.cells #[.slice none 0 0] 38 (0, 0)) := (s3.block (n + 2) (Array.getElem?_eq_some_iff.1 a2).1 (hnH (n + 2) (.inr (.inl rfl)))).trans a2
      have hu : Upd (fun k => k = n + 2 ∨ H k) A (W.setCell ⟨n + 2, 0, none⟩ ov) := (s3.mono (fun _ _ h => Or.inr h)).trans (hset.mono (fun k _ e => .inl e))
      refine ⟨⟨_, hu, ?_⟩, ⟨rfl, by rw [eo, ea, List.length_append]; omega⟩, ⟨ov, setCell_same (o := 0) (v := ov) g2, ?_⟩, hC, ?_⟩
      · rintro k (rfl | hk)
        · exact ⟨.inl (.inl rfl), _, _, _, a2⟩
        · exact hHc k hk
      · rw [et]
        exact owns_upd s2 hset (fun q hq e => by
          obtain ⟨cur, hc⟩ := owns_kind3 s2 q hq
          rw [e, g2] at hc
          simp at hc)
      · have h1 := (hud.mono (fun _ _ h => Or.inl h)).trans (hu.mono (fun k _ hk => hk.elim (fun e => .inl (.inl e)) (fun hk => (hHc k hk).1.elim .inl .inr)) : Upd (fun k => (k = n + 2 ∨ k = n + 3) ∨ C ≤ k) A (W.setCell ⟨n + 2, 0, none⟩ ov))
        exact h1.mono (fun k hk h => h.elim id (fun e => by omega))
    have hHn : H (n + 3) := by rw [hH]; exact .inl rfl
    have hCA2 : C ≤ A.heap.size := Nat.le_trans hCA hua.size
    have HST := Lib.hid hstart
    have HBD := Lib.hid hbound
    have HRC := Lib.hid hrecs
    have HFX := Lib.hid hfix
    have HGO := Lib.hid hgo
    have HOUT := Lib.hid hout
    have HLE := Lib.hid hle
    have HCN := Lib.hid (And.intro hHn hCA2)
    clear hstart hbound hrecs hfix hgo hout hHn hCA2 a0 a1 a2 a3 hw1 hov0 hud hp hrv hle hHc hnH hH hxc hrest up hnl hlo hloc ho0 hw0 hua hi hml g0 g1 g2 g3 hit
    gi_wp2_with fail
    gi_loopw [18] (fun v18 wr => ∃ j : Nat, j ≤ bt.recs.length ∧ v18 = .int .i64 j ∧ RdS A H C (n + 3) (outF off pre ++ (bt.recs.take j).filter (fun x => decide (off ≤ x.off))) wr ∧ (outF off pre ++ (bt.recs.take j).filter (fun x => decide (off ≤ x.off))).length ≤ most.toNat) (fun v18 _ => bt.recs.length - (intOf v18).toNat)
    case atStart => exact ⟨0, Nat.zero_le _, rfl, HST.out, by rw [List.take_zero, List.filter_nil, List.append_nil]; exact HLE.out⟩
    case round =>
      obtain ⟨j, hj, rfl, hs, hl⟩ := hrel
      by_cases hjt : j < bt.recs.length
      · obtain ⟨ov, s1, s2, s3, s4⟩ := hs
        obtain ⟨rb, ro, era, r0, r1, r2, r3⟩ := HRC.out _ s3 j hjt
        subst era
        obtain ⟨r, hr⟩ : ∃ r, bt.recs[j] = r := ⟨_, rfl⟩
        rw [hr] at r0 r1 r2 r3
        have htk : bt.recs.take (j + 1) = bt.recs.take j ++ [r] := by rw [List.take_add_one, List.getElem?_eq_getElem hjt, hr]; rfl
        obtain ⟨oa, oc, rfl, -⟩ := (Sl.of_owns s2).shape
        have hout := fun o => HOUT.out j (wr.alloc o) _ hj (al_old o s1) (owns_upd s2 (Upd.of_below (F := fun _ => False) (below_alloc wr o)) (fun _ _ h => h)) (s3.trans (Upd.of_below (below_alloc wr o))) hl
        have hOb : (outF off pre ++ (bt.recs.take j).filter (fun x => decide (off ≤ x.off))).length + (if off ≤ r.off then 1 else 0) ≤ 1000000 := by
          have h1 := HBD.out
          have e : bt.recs = bt.recs.take j ++ (r :: bt.recs.drop (j + 1)) := by
            conv => lhs; rw [← List.take_append_drop j bt.recs, List.drop_eq_getElem_cons hjt, hr]
          rw [e, List.filter_append] at h1
          simp only [List.filter_cons, List.length_append] at h1 ⊢
          split at h1 <;> rename_i hh
          · rw [if_pos (by simpa using hh)]; simp only [List.length_cons] at h1; omega
          · rw [if_neg (by simpa using hh)]; omega
        obtain ⟨O, hO⟩ : ∃ O, outF off pre ++ (bt.recs.take j).filter (fun x => decide (off ≤ x.off)) = O := ⟨_, rfl⟩
        rw [hO] at s1 s2 s4 hout hl hOb
        have hon : (O.length : Int) ≤ 1000000 := by omega
        have f := fun o => HFX.out (wr.alloc o) (s3.trans (Upd.of_below (below_alloc wr o)))
        have f0 : ∀ o, (wr.alloc o).cell? ⟨n, 0, none⟩ = some (.int .i64 off) := fun o => (f o).1
        have f1 : ∀ o, (wr.alloc o).cell? ⟨n + 1, 0, none⟩ = some (.int .i64 most) := fun o => (f o).2.1
        have f2 : ∀ o, (wr.alloc o).cell? ⟨n + 2, 0, none⟩ = some (.slice none 0 0) := fun o => (f o).2.2.1
        have fz : ∀ o, (wr.alloc o).frozen? ⟨n + 2, 0, none⟩ = false := fun o => (f o).2.2.2
        have f3 : ∀ o, (wr.alloc o).cell? ⟨n + 3, 0, none⟩ = some (.slice oa O.length oc) := fun o => cells_of (al_old o s1) 0 _ rfl
        have j1 : (j : Int) < (bt.recs.length : Int) := by omega
        have j2 : (0 : Int) ≤ (j : Int) := by omega
        have HTK := Lib.hid (And.intro htk hO)
        have HS := Lib.hid (And.intro s1 (And.intro s2 (And.intro s3 s4)))
        have HO := Lib.hid hout
        have HL := Lib.hid hl
        clear f htk hO s1 s2 s3 s4 hout hl hr
        by_cases hge : most ≤ (O.length : Int)
        · have HF := Lib.hid (fun o => HO.out o hge)
          clear HO HS HTK HL hOb
          gi_wp2_with fail
          exact HF.out _
        · by_cases hoff : off ≤ r.off
          · rw [if_pos hoff] at hOb
            have hrow : ∀ o o2, ((wr.alloc o).alloc o2).ownsRow C 84 4 (.slice oa O.length oc) O.length (recCells O) := fun o o2 => (HS.out.2.1.alloc o).alloc o2
            have hbse : ∀ o o2, C ≤ ((wr.alloc o).alloc o2).heap.size := fun o o2 => by have h1 := HCN.out.2; have h2 := HS.out.2.2.1.size; simp only [World.size_alloc]; omega
            have hpu : ∀ (g cap : Nat) (W5 : World) (o ob : Obj), W5.ownsRow C 84 4 (.slice (some ⟨g, 0, none⟩) (O.length + 1) cap) (O.length + 1) (recCells O ++ [.int .i64 r.off, .string r.key, .string r.val, .bool r.gone]) → ((wr.alloc o).alloc ob).grownBy W5 (Value.slice oa O.length oc).ownBlock → ((Value.slice oa O.length oc).ownBlock = some g ∨ g = ((wr.alloc o).alloc ob).heap.size) →
                W5.cell? ⟨n + 3, 0, none⟩ = some (.slice oa O.length oc) ∧ W5.frozen? ⟨n + 3, 0, none⟩ = false ∧ RdS A H C (n + 3) (outF off pre ++ (bt.recs.take (j + 1)).filter (fun x => decide (off ≤ x.off))) (W5.setCell ⟨n + 3, 0, none⟩ (.slice (some ⟨g, 0, none⟩) (O.length + 1) cap)) := by
              intro g cap W5 o ob h1 h2 h3
              have e : outF off pre ++ (bt.recs.take (j + 1)).filter (fun x => decide (off ≤ x.off)) = O ++ [r] := by
                rw [HTK.out.1, List.filter_append, ← List.append_assoc, HTK.out.2]
                simp only [List.filter_cons, List.filter_nil]
                rw [if_pos (by simpa using hoff)]
              rw [e]
              exact RdS.more HCN.out.1 (al_old o HS.out.1) (HS.out.2.1.alloc o) (HS.out.2.2.1.trans (Upd.of_below (below_alloc wr o))) HS.out.2.2.2 h1 h2 h3
            have hlen : (outF off pre ++ (bt.recs.take (j + 1)).filter (fun x => decide (off ≤ x.off))).length ≤ most.toNat := by
              rw [HTK.out.1, List.filter_append, ← List.append_assoc, HTK.out.2]
              simp only [List.filter_cons, List.filter_nil]
              rw [if_pos (by simpa using hoff), List.length_append]
              simp only [List.length_cons, List.length_nil]
              have := HL.out
              omega
            have HROW := Lib.hid hrow
            have HBSE := Lib.hid hbse
            have HPU := Lib.hid hpu
            have HLEN := Lib.hid hlen
            clear hrow hbse hpu hlen HO HS HTK HL
            obtain ⟨i0, hi, hz0, hz1, hz2⟩ := info_parts info_Rec4
            gi_wp2_with (gi_at_builtin; refine wpListIn_append_at _ rfl _ _ 38 rfl C 84 i0 _ 4 48 und_Recs4 hi hz0 hz1 hz2 rfl (by decide) (.slice oa O.length oc) O.length (recCells O) rfl (HROW.out _ _) _ 1 1 [.int .i64 r.off, .string r.key, .string r.val, .bool r.gone] rfl rfl (World.news_of_block (cs := #[.int .i64 r.off, .string r.key, .string r.val, .bool r.gone]) (t := 84) (fr := (0, 0)) (al_at _ (by simp only [World.size_alloc]))) (by simp [Value.oneCell']) (by decide) (by unfold maxLen; omega) (by omega) (HBSE.out _ _) ?_; intro g5 cap5 w5 hown5 hgrow5 hat5; obtain ⟨c5, z5, hfin⟩ := HPU.out _ _ _ _ _ hown5 hgrow5 hat5; have HFIN := Lib.hid hfin; clear hfin hown5 hgrow5 hat5)
            go_roundw
            case rel => exact ⟨j + 1, by omega, by go_num, HFIN.out, HLEN.out⟩
            case measure => simp [intOf]; omega
          · have hrel : ∀ o, RdS A H C (n + 3) (outF off pre ++ (bt.recs.take (j + 1)).filter (fun x => decide (off ≤ x.off))) (wr.alloc o) ∧ (outF off pre ++ (bt.recs.take (j + 1)).filter (fun x => decide (off ≤ x.off))).length ≤ most.toNat := by
              intro o
              have e : outF off pre ++ (bt.recs.take (j + 1)).filter (fun x => decide (off ≤ x.off)) = O := by
                rw [HTK.out.1, List.filter_append, ← List.append_assoc, HTK.out.2]
                simp only [List.filter_cons, List.filter_nil]
                rw [if_neg (by simpa using hoff), List.append_nil]
              rw [e]
              exact ⟨RdS.below ⟨_, HS.out.1, HS.out.2.1, HS.out.2.2.1, HS.out.2.2.2⟩ (below_alloc _ _), HL.out⟩
            have HREL := Lib.hid hrel
            clear hrel HO HS HTK HL hOb
            gi_wp2_with fail
            go_roundw
            case rel => exact ⟨j + 1, by omega, by go_num, (HREL.out _).1, (HREL.out (.cells #[] 0)).2⟩
            case measure => simp [intOf]; omega
      · obtain rfl : j = bt.recs.length := by omega
        have hfin := HGO.out _ hs hl
        have HFIN := Lib.hid hfin
        clear hfin hs hl
        gi_wp2_with fail
        exact HFIN.out
  case done =>
    rintro Dd C xs A hD hS hi hK
    obtain ⟨ov, ho, hw⟩ := hi.out
    have hC2 : ∀ g, ov.ownBlock = some g → C ≤ g := fun g hg => (owns_lt hw g hg).1
    have eO : outF off xs = R := by
      rw [HR.out]
      unfold outF
      rw [hS, List.take_of_length_le]
      have h1 := hi.le
      unfold outF at h1
      rw [hS] at h1
      exact h1
    rw [eO] at hw
    obtain ⟨oa, oc, rfl, -⟩ := (Sl.of_owns hw).shape
    have c3 : A.cell? ⟨n + 3, 0, none⟩ = some (.slice oa R.length oc) := cells_of ho 0 _ rfl
    have c2 : A.cell? ⟨n + 2, 0, none⟩ = some (.slice none 0 0) := cells_of hi.b2 0 _ rfl
    have z2 : A.frozen? ⟨n + 2, 0, none⟩ = false := frozen_of hi.b2
    have hset := upd_set1 A (n + 2) 0 (.slice oa R.length oc)
    have hu : Upd (fun k => k = n + 2 ∨ k = n + 3) wq (A.setCell ⟨n + 2, 0, none⟩ (.slice oa R.length oc)) := hi.upd.trans (hset.mono (fun k _ e => .inl e))
    have hz := HWQ.out.2.1
    have hcc := hi.c
    have hfin := rd_fin (o := .slice oa R.length oc) HWQ.out.1 (by have := HWQ.out.2.2; omega) hi.c hu (setCell_same (o := 0) (v := .slice oa R.length oc) hi.b2) (owns_upd hw hset (fun q hq e => by have := hC2 q hq; omega)) hD ((hset.block Dd (Array.getElem?_eq_some_iff.1 hK).1 (by omega)).trans hK)
    have HFIN := Lib.hid hfin
    clear hfin hset hu hw hi ho hz
    gi_wp2_with fail
    obtain ⟨h1, h2, h3⟩ := HFIN.out
    refine ⟨by simp, .inl ⟨_, _, rfl, run_takeDeferred h1, ?_⟩⟩
    refine ⟨.slice oa R.length oc, by simp [results, Tryz.f34, go_sem, h2], h3⟩
  case stop =>
    rintro Dd c C pre A hD ⟨rest, hrest, -⟩ ⟨⟨rfl, hml⟩, ⟨ov, ho, hw⟩, hcc, hu⟩ hK
    have eO : (outF off pre).take most.toNat = R := by
      rw [HR.out, ← hrest]
      have e : (recsB (pre.map (fun x => x.2) ++ rest)).filter (fun x => decide (off ≤ x.off)) = outF off pre ++ (recsB rest).filter (fun x => decide (off ≤ x.off)) := by simp [outF, recsB]
      rw [e, List.take_append_of_le_length hml]
    rw [eO] at hw
    have hz := HWQ.out.2.1
    have hfin := rd_fin (o := ov) HWQ.out.1 (by have := HWQ.out.2.2; omega) hcc hu ho hw hD hK
    have HFIN := Lib.hid hfin
    clear hfin hu hw ho hz
    gi_wp2_with fail
    obtain ⟨h1, h2, h3⟩ := HFIN.out
    refine ⟨by simp, .inl ⟨_, _, rfl, run_takeDeferred h1, ?_⟩⟩
    refine ⟨ov, by simp [results, Tryz.f34, go_sem, h2], h3⟩
end
end Go.Proofs.YtcpaaleogmiamaaGreatDoor
