/- What becomes of a strand in memory when a segment is written or comes. -/
/- append onto a slice that is full (its capacity is its length): a new row; slices.Clip. -/
import Derived.Test.YtcpaaleogmiamaaGreatDoorMp17
import Derived.Test.YtcpaaleogmiamaaGreatDoorMp20
import Derived.Deep.AppendLies
namespace Go.Proofs.YtcpaaleogmiamaaGreatDoor
open Go.RowKit

theorem fl_set3 {α : Type} {f : α → List Value} (hf : ∀ y, (f y).length = 3) : ∀ (l : List α) (k : Nat) (_ : k < l.length) (a b c : Value) (y : α), f y = [a, b, c] → (((l.flatMap f).set (k * 3) a).set (k * 3 + 1) b).set (k * 3 + 2) c = (l.set k y).flatMap f
  | [], k, hk, _, _, _, _, _ => absurd hk (Nat.not_lt_zero k)
  | x :: l, 0, _, a, b, c, y, he => by
    obtain ⟨p, q, r, e⟩ : ∃ p q r, f x = [p, q, r] := by
      have := hf x
      match f x, this with
      | [p, q, r], _ => exact ⟨p, q, r, rfl⟩
    simp [List.flatMap_cons, e, he]
  | x :: l, k + 1, hk, a, b, c, y, he => by
    have hk' : k < l.length := by simpa using hk
    have hl := hf x
    rw [List.set_cons_succ, List.flatMap_cons, List.flatMap_cons]
    have e0 : (k + 1) * 3 = (f x).length + k * 3 := by omega
    have e1 : (k + 1) * 3 + 1 = (f x).length + (k * 3 + 1) := by omega
    have e2 : (k + 1) * 3 + 2 = (f x).length + (k * 3 + 2) := by omega
    rw [e1, e2, e0]
    rw [List.set_append_right _ _ (by omega), List.set_append_right _ _ (by omega), List.set_append_right _ _ (by omega)]
    simp only [Nat.add_sub_cancel_left]
    rw [fl_set3 hf l k hk' a b c y he]
theorem fl_set2 {α : Type} {f : α → List Value} (hf : ∀ y, (f y).length = 3) : ∀ (l : List α) (k : Nat) (hk : k < l.length) (a b c : Value) (y : α), f y = [a, b, c] → (f l[k])[0]? = some a → (((l.flatMap f)).set (k * 3 + 1) b).set (k * 3 + 2) c = (l.set k y).flatMap f := by
  intro l k hk a b c y he h0
  rw [← fl_set3 hf l k hk a b c y he]
  congr 2
  have h1 := fl_at hf l k hk 0 a h0
  rw [Nat.add_zero] at h1
  have hlt := (List.getElem?_eq_some_iff.1 h1).1
  refine (List.ext_getElem (by simp) (fun j h2 h3 => ?_)).symm
  rw [List.getElem_set]
  split
  · rename_i e
    subst e
    rw [(List.getElem?_eq_some_iff.1 h1).2]
  · rfl

theorem BsIn.more {w' : World} {D Dr : Nat → Prop} {N : Nat} {lv' rv : Value} {m : List (Value × Batch)} {l : List Batch} {b : Batch} (h1 : m.map (·.2) = l) (h3 : ∀ x ∈ m, InS w' D (fun W => RcsRd W x.1 x.2.recs))
    (ho : w'.ownsRow N 40 6 lv' (m.length + 1) (bCells m ++ [.int .i64 b.base, .int .i64 b.count, .int .i64 b.prod, .int .i64 b.seq, .int .i64 b.time, rv])) (hr : InS w' Dr (fun W => RcsRd W rv b.recs)) :
    BsIn w' (fun c => D c ∨ lv'.ownBlock = some c ∨ Dr c) lv' (l ++ [b]) := by
  refine ⟨m ++ [(rv, b)], by simp [h1], ?_, fun x hx => ?_⟩
  · have e : bCells (m ++ [(rv, b)]) = bCells m ++ [.int .i64 b.base, .int .i64 b.count, .int .i64 b.prod, .int .i64 b.seq, .int .i64 b.time, rv] := by simp [bCells]
    rw [e, List.length_append]
    exact owns_inS ho (fun g hg => .inr (.inl hg))
  · rcases List.mem_append.1 hx with hx | hx
    · exact (h3 x hx).grow (fun c hc _ => .inl hc)
    · simp only [List.mem_singleton] at hx
      subst hx
      exact hr.grow (fun c hc _ => .inr (.inr hc))

section
variable {w : World} {S : Nat → Prop} {sb tb : Nat} {x : St} {gv : Value} {m : List (Value × Sg)} {D D1 : Nat → Prop}

theorem StIn.setSeg {gb n cap : Nat} (h : StIn w S sb tb x (.slice (some ⟨gb, 0, none⟩) n cap) m D) (k : Nat) (hk : k < m.length) {lv' : Value} {b0 : Int} {l' : List Batch} (hl : BsIn w D1 lv' l') (hD1 : ∀ c, D1 c → c < w.heap.size ∧ c ≠ sb ∧ c ≠ gb) :
    StIn (((w.setCell ⟨gb, k * 3, none⟩ (.int .i64 b0)).setCell ⟨gb, k * 3 + 1, none⟩ lv').setCell ⟨gb, k * 3 + 2, none⟩ (.int .i64 ((sgB l').length : Int))) (fun c => S c ∨ D1 c) sb tb { x with segs := x.segs.set k ⟨b0, l'⟩ } (.slice (some ⟨gb, 0, none⟩) n cap) (m.set k (lv', ⟨b0, l'⟩)) (fun c => D c ∨ D1 c) ∧
    Upd (fun c => c = gb) w (((w.setCell ⟨gb, k * 3, none⟩ (.int .i64 b0)).setCell ⟨gb, k * 3 + 1, none⟩ lv').setCell ⟨gb, k * 3 + 2, none⟩ (.int .i64 ((sgB l').length : Int))) := by
  have hu : Upd (fun c => c = gb) w (((w.setCell ⟨gb, k * 3, none⟩ (.int .i64 b0)).setCell ⟨gb, k * 3 + 1, none⟩ lv').setCell ⟨gb, k * 3 + 2, none⟩ (.int .i64 ((sgB l').length : Int))) := ((upd_set1 w gb _ _).trans (upd_set1 _ gb _ _)).trans (upd_set1 _ gb _ _)
  have hne : sb ≠ gb := fun e => h.ne (by rw [e]; rfl)
  obtain rfl : n = m.length := by
    rcases h.row.2 with ⟨h2, -⟩ | ⟨g, cap', cur, h2, -⟩
    · cases h2
    · simp only [Value.slice.injEq] at h2; exact h2.2.1
  refine ⟨⟨(hu.block sb (h.lt sb h.own) hne).trans h.blk, ?_, ?_, ?_, ?_, .inl h.own, fun g hg => .inl (h.ownG g hg), ?_⟩, hu⟩
  · rw [← h.segs]
    apply List.ext_getElem
    · simp
    · intro j h1 h2
      simp only [List.getElem_map, List.getElem_set]
      split <;> rfl
  · have h1 := (((h.row.stored (k * 3) (.int .i64 b0)).1.stored (k * 3 + 1) lv').1.stored (k * 3 + 2) (.int .i64 ((sgB l').length : Int))).1
    rw [sgCells_el, fl_set3 sgEl_len m k hk _ _ _ (lv', ⟨b0, l'⟩) rfl] at h1
    rw [List.length_set]
    exact h1
  · intro y hy
    rcases List.mem_or_eq_of_mem_set hy with hy | rfl
    · exact ((h.lists y hy).upd hu (fun c hc _ e => (h.apart c hc).2.2 (by rw [e]; rfl))).grow (fun c hc _ => .inl hc)
    · exact (hl.upd hu (fun c hc _ e => (hD1 c hc).2.2 e)).grow (fun c hc _ => .inr hc)
  · rintro c (hc | hc)
    · have := h.apart c hc
      exact ⟨.inl this.1, this.2⟩
    · refine ⟨.inr hc, (hD1 c hc).2.1, fun e => (hD1 c hc).2.2 ?_⟩
      simp only [Value.ownBlock, Option.some.injEq] at e
      exact e.symm
  · rintro c (hc | hc)
    · exact Nat.lt_of_lt_of_le (h.lt c hc) hu.size
    · exact Nat.lt_of_lt_of_le (hD1 c hc).1 hu.size

theorem StIn.setList {gb n cap : Nat} (h : StIn w S sb tb x (.slice (some ⟨gb, 0, none⟩) n cap) m D) (k : Nat) (hk : k < m.length) {lv' : Value} {l' : List Batch} (hl : BsIn w D1 lv' l') (hD1 : ∀ c, D1 c → c < w.heap.size ∧ c ≠ sb ∧ c ≠ gb) :
    StIn ((w.setCell ⟨gb, k * 3 + 1, none⟩ lv').setCell ⟨gb, k * 3 + 2, none⟩ (.int .i64 ((sgB l').length : Int))) (fun c => S c ∨ D1 c) sb tb { x with segs := x.segs.set k ⟨m[k].2.base, l'⟩ } (.slice (some ⟨gb, 0, none⟩) n cap) (m.set k (lv', ⟨m[k].2.base, l'⟩)) (fun c => D c ∨ D1 c) ∧
    Upd (fun c => c = gb) w ((w.setCell ⟨gb, k * 3 + 1, none⟩ lv').setCell ⟨gb, k * 3 + 2, none⟩ (.int .i64 ((sgB l').length : Int))) := by
  have hu : Upd (fun c => c = gb) w ((w.setCell ⟨gb, k * 3 + 1, none⟩ lv').setCell ⟨gb, k * 3 + 2, none⟩ (.int .i64 ((sgB l').length : Int))) := (upd_set1 w gb _ _).trans (upd_set1 _ gb _ _)
  have hne : sb ≠ gb := fun e => h.ne (by rw [e]; rfl)
  obtain rfl : n = m.length := by
    rcases h.row.2 with ⟨h2, -⟩ | ⟨g, cap', cur, h2, -⟩
    · cases h2
    · simp only [Value.slice.injEq] at h2; exact h2.2.1
  refine ⟨⟨(hu.block sb (h.lt sb h.own) hne).trans h.blk, ?_, ?_, ?_, ?_, .inl h.own, fun g hg => .inl (h.ownG g hg), ?_⟩, hu⟩
  · rw [← h.segs]
    apply List.ext_getElem
    · simp
    · intro j h1 h2
      simp only [List.getElem_map, List.getElem_set]
      split <;> rfl
  · have h1 := ((h.row.stored (k * 3 + 1) lv').1.stored (k * 3 + 2) (.int .i64 ((sgB l').length : Int))).1
    rw [sgCells_el, fl_set2 sgEl_len m k hk _ _ _ (lv', ⟨m[k].2.base, l'⟩) rfl rfl] at h1
    rw [List.length_set]
    exact h1
  · intro y hy
    rcases List.mem_or_eq_of_mem_set hy with hy | rfl
    · exact ((h.lists y hy).upd hu (fun c hc _ e => (h.apart c hc).2.2 (by rw [e]; rfl))).grow (fun c hc _ => .inl hc)
    · exact (hl.upd hu (fun c hc _ e => (hD1 c hc).2.2 e)).grow (fun c hc _ => .inr hc)
  · rintro c (hc | hc)
    · have := h.apart c hc
      exact ⟨.inl this.1, this.2⟩
    · refine ⟨.inr hc, (hD1 c hc).2.1, fun e => (hD1 c hc).2.2 ?_⟩
      simp only [Value.ownBlock, Option.some.injEq] at e
      exact e.symm
  · rintro c (hc | hc)
    · exact Nat.lt_of_lt_of_le (h.lt c hc) hu.size
    · exact Nat.lt_of_lt_of_le (hD1 c hc).1 hu.size

/-- A segment more. -/
theorem StIn.push (h : StIn w S sb tb x gv m D) {ob : Obj} {W2 : World} {g cap : Nat} {lv' : Value} {b0 : Int} {l' : List Batch} (ho : W2.ownsRow 0 158 3 (.slice (some ⟨g, 0, none⟩) (m.length + 1) cap) (m.length + 1) (sgCells m ++ [.int .i64 b0, lv', .int .i64 ((sgB l').length : Int)]))
    (hg : (w.alloc ob).grownBy W2 gv.ownBlock) (hat : gv.ownBlock = some g ∨ g = (w.alloc ob).heap.size) (hl : BsIn w D1 lv' l') (hD1 : ∀ c, D1 c → c < w.heap.size ∧ c ≠ sb ∧ gv.ownBlock ≠ some c) :
    W2.heap[sb]? = w.heap[sb]? ∧ StIn (W2.setCell ⟨sb, 3, none⟩ (.slice (some ⟨g, 0, none⟩) (m.length + 1) cap)) (fun c => S c ∨ D1 c ∨ c = g) sb tb { x with segs := x.segs ++ [⟨b0, l'⟩] } (.slice (some ⟨g, 0, none⟩) (m.length + 1) cap) (m ++ [(lv', ⟨b0, l'⟩)]) (fun c => D c ∨ D1 c) ∧
    Upd S w (W2.setCell ⟨sb, 3, none⟩ (.slice (some ⟨g, 0, none⟩) (m.length + 1) cap)) ∧ (g < w.heap.size → S g) := by
  have hu : Upd (fun c => some c = gv.ownBlock) w W2 := (upd_alloc _ w ob).trans (upd_grown hg)
  have hset := upd_set1 W2 sb 3 (.slice (some ⟨g, 0, none⟩) (m.length + 1) cap)
  have hsb := h.lt sb h.own
  have hsz := hu.size
  have hblk := (hu.block sb hsb (fun e => h.ne e.symm))
  have hgne : g ≠ sb := by
    rcases hat with e | e
    · intro e2; exact h.ne (by rw [e, e2])
    · simp only [World.size_alloc] at e; omega
  have hgl : g < W2.heap.size := by
    rcases ho.2 with ⟨h2, -⟩ | ⟨g', cap', cur, h2, -, h3, -⟩
    · cases h2
    · simp only [Value.slice.injEq, Option.some.injEq, Addr.mk.injEq, and_true] at h2
      rw [h2.1]
      exact (Array.getElem?_eq_some_iff.1 h3).1
  have hout : ∀ c, c < w.heap.size → gv.ownBlock ≠ some c → c ≠ g := by
    intro c hc hne e
    subst e
    rcases hat with e | e
    · exact hne e
    · simp only [World.size_alloc] at e; omega
  refine ⟨hblk, ⟨?_, by simp [h.segs], ?_, ?_, ?_, .inl h.own, ?_, ?_⟩, ?_, ?_⟩
  · exact setCell_same (o := 3) (v := .slice (some ⟨g, 0, none⟩) (m.length + 1) cap) (hblk.trans h.blk)
  · have e : sgCells (m ++ [(lv', ⟨b0, l'⟩)]) = sgCells m ++ [.int .i64 b0, lv', .int .i64 ((sgB l').length : Int)] := by simp [sgCells]
    rw [e, List.length_append]
    exact owns_upd ho hset (fun c hc e => by
      simp only [Value.ownBlock, Option.some.injEq] at hc
      exact hgne (hc.trans e))
  · intro y hy
    rcases List.mem_append.1 hy with hy | hy
    · exact (((h.lists y hy).upd hu (fun c hc _ e => (h.apart c hc).2.2 e.symm)).upd hset (fun c hc _ e => (h.apart c hc).2.1 e)).grow (fun c hc _ => .inl hc)
    · simp only [List.mem_singleton] at hy
      subst hy
      exact ((hl.upd hu (fun c hc _ e => (hD1 c hc).2.2 e.symm)).upd hset (fun c hc _ e => (hD1 c hc).2.1 e)).grow (fun c hc _ => .inr hc)
  · rintro c (hc | hc)
    · have h1 := h.apart c hc
      refine ⟨.inl h1.1, h1.2.1, fun e => ?_⟩
      simp only [Value.ownBlock, Option.some.injEq] at e
      exact hout c (h.lt c h1.1) h1.2.2 e.symm
    · refine ⟨.inr (.inl hc), (hD1 c hc).2.1, fun e => ?_⟩
      simp only [Value.ownBlock, Option.some.injEq] at e
      exact hout c (hD1 c hc).1 (hD1 c hc).2.2 e.symm
  · intro c hc
    simp only [Value.ownBlock, Option.some.injEq] at hc
    exact .inr (.inr hc.symm)
  · have hz := hset.size
    rintro c (hc | hc | hc)
    · have := h.lt c hc; omega
    · have := (hD1 c hc).1; omega
    · omega
  · exact (hu.mono (fun c _ e => h.ownG c e.symm)).trans (hset.mono (fun c _ e => by rw [e]; exact h.own))
  · intro hlt
    rcases hat with e | e
    · exact h.ownG g e
    · simp only [World.size_alloc] at e; omega
end

theorem TpAt.notOwn {w : World} {b mb : Nat} {L : TpL} {t : Tp} (h : TpAt w b mb L t) {N e sz n : Nat} {v : Value} {xs : List Value} (ho : w.ownsRow N e sz v n xs) (h1 : e ≠ 129) (h2 : e ≠ 150) : ∀ g, v.ownBlock = some g → ¬ TpF b mb L g := by
  intro g hg hf
  obtain ⟨cur, hc⟩ := owns_kind3 ho g hg
  rcases h.kinds g hf with ⟨cs, h4⟩ | ⟨es, cl, h4⟩ | ⟨cs, h4⟩
  · rw [h4] at hc
    simp at hc
    exact h1 hc.2.symm
  · rw [h4] at hc
    simp at hc
  · rw [h4] at hc
    simp at hc
    exact h2 hc.2.symm
theorem SdTo.since {w0 w w5 w' : World} {S S5 : Nat → Prop} {sb b mb : Nat} {L L5 : TpL} {r : Tp × St × Int} {e : Ending} (hu : Upd (SdF S b mb L) w w5) (hS : ∀ k, S5 k → S k ∨ w.heap.size ≤ k) (hL : ∀ k ∈ tpBlocks L5, k ∈ tpBlocks L ∨ w.heap.size ≤ k)
    (h : SdTo w0 w5 S5 sb b mb L5 r e w') : SdTo w0 w S sb b mb L r e w' := by
  obtain ⟨S', L', h1, h2, h3, h4, h5⟩ := h
  refine ⟨S', L', h1, h2, ?_, fun k hk => (h4 k hk).elim (hS k) (fun h => .inr (Nat.le_trans hu.size h)), fun k hk => (h5 k hk).elim (hL k) (fun h => .inr (Nat.le_trans hu.size h))⟩
  have h3' : Upd (fun k => SdF S b mb L k ∨ w.heap.size ≤ k) w5 w' := h3.mono (fun k _ hk => hk.elim (fun hs => (hS k hs).elim (fun h => .inl (.inl h)) .inr) (fun ht => (TpF.new hL k ht).elim (fun h => .inl (.inr h)) .inr))
  have h6 := (hu.mono (fun k _ hk => Or.inl hk) : Upd (fun k => SdF S b mb L k ∨ w.heap.size ≤ k) w w5).trans h3'
  exact h6.mono (fun k hk h => h.elim id (fun h => by omega))
end Go.Proofs.YtcpaaleogmiamaaGreatDoor
namespace Go.Proofs.YtcpaaleogmiamaaGreatDoor
open Go.RowKit

section
variable {P : Program} (w : World)
theorem run_append_full (t ty e : TypeId) (i : TypeInfo) (z : Value) (size bytes : Nat) (ht : P.underlying t = some (.slice e)) (hi : P.info? e = some i) (hz : i.zero = some z) (hsize : i.size = size) (hby : i.bytes = bytes) (hzs : z.cells.size = size)
    (v : Value) (n : Nat) (xs : List Value) (hv : ∃ a, v = .slice a n n) (hrd : Rd w size v n xs)
    (ad : Addr) (m c : Nat) (news : List Value) (hl : news.length = m * size) (hnews : ∀ j u, news[j]? = some u → w.cell? (ad.add j) = some u)
    (hm : 0 < m) (h63 : n + m ≤ 9223372036854775807) (hbytes : (n + m) * bytes ≤ 140737488355328) :
    ∃ cap w', (Builtin.append_ #[t, t] ty #[v, .slice (some ad) m c]).run P w = .ok (.slice (some ⟨w.heap.size, 0, none⟩) (n + m) cap) w' ∧ w'.ownsRow w.heap.size e size (.slice (some ⟨w.heap.size, 0, none⟩) (n + m) cap) (n + m) (xs ++ news) ∧ Below w.heap.size w w' := by
  subst hsize
  subst hby
  have key : ∀ (old : Nat), grownCap w (n + m) old e ≤ maxLen := fun old => grownCap_le_maxLen w (n + m) old e (by unfold maxLen; omega)
  have own : ∀ old, xs.length = n * i.size → ((w.drew.alloc (.cells (xs.toArray ++ news.toArray ++ Builtin.zeroCells z.cells (grownCap w (n + m) old e - (n + m))) e))).ownsRow w.heap.size e i.size (.slice (some ⟨w.heap.size, 0, none⟩) (n + m) (grownCap w (n + m) old e)) (n + m) (xs ++ news) := by
    intro old hxl
    have hge := grownCap_ge w (n + m) old e
    have hlen : (xs ++ news).length = (n + m) * i.size := by rw [List.length_append, hxl, hl, Nat.add_mul]
    refine ⟨hlen, .inr ⟨w.heap.size, _, _, rfl, Nat.le_refl _, heap_alloc_new w.drew _, hge, key old, ?_, ?_⟩⟩
    · rw [Array.size_append, size_zeroCells, hzs]
      have : (xs.toArray ++ news.toArray).size = (n + m) * i.size := by
        have := hlen
        simp only [List.length_append] at this
        simpa using this
      rw [this, ← Nat.add_mul]
      congr 1
      omega
    · rw [Array.toList_append, List.take_append_of_le_length (by simp only [Array.toList_append, List.length_append] at hlen ⊢; omega)]
      rw [List.take_of_length_le (by simp only [Array.toList_append, List.length_append] at hlen ⊢; omega)]
      simp
  obtain ⟨a, rfl⟩ := hv
  rcases hrd.2 with ⟨h0, rfl⟩ | ⟨ad', cap', h0, h1, h2, h3⟩
  · simp only [Value.slice.injEq] at h0
    obtain ⟨rfl, -⟩ := h0
    have hx0 : xs = [] := by have := hrd.1; simpa using this
    subst hx0
    have hr := run_append_nil (P := P) w t ty e i z ht hi hz ad m c news hl hnews hm (by omega) (by rw [Nat.zero_add] at hbytes; omega)
    have ho := own 0 (by simp)
    rw [Nat.zero_add] at ho ⊢
    simp only [List.nil_append] at ho ⊢
    refine ⟨_, _, hr, ?_, (Below.refl _ w).drew.alloc (Nat.le_refl _) _⟩
    simpa using ho
  · simp only [Value.slice.injEq, true_and] at h0
    obtain ⟨rfl, -⟩ := h0
    have hr := run_append_grow (P := P) w t ty e i z ht hi hz ad' n n xs hrd.1 h3 ad m c news hl hnews (by omega) (by omega) (growslice_fits (by omega) hbytes)
    exact ⟨_, _, hr, own n hrd.1, (Below.refl _ w).drew.alloc (Nat.le_refl _) _⟩

theorem wp_append_full {o : Oper} {a : Act} {K : Act → World → Prop} {Q : Exit → Act → World → Prop} (s x : Operand) (t : TypeId)
    (ho : o.op = .call { callee := .builtin .append, args := #[s, x], argTypes := #[t, t] })
    (e : TypeId) (i : TypeInfo) (z : Value) (size bytes : Nat) (ht : P.underlying t = some (.slice e)) (hi : P.info? e = some i) (hz : i.zero = some z) (hsize : i.size = size) (hby : i.bytes = bytes) (hzs : z.cells.size = size)
    (v : Value) (n : Nat) (xs : List Value) (hs : a.eval s = v) (hv : ∃ a, v = .slice a n n) (hrd : Rd w size v n xs)
    (ad : Addr) (m c : Nat) (news : List Value) (hx : a.eval x = .slice (some ad) m c) (hl : news.length = m * size) (hnews : ∀ j u, news[j]? = some u → w.cell? (ad.add j) = some u)
    (hm : 0 < m) (h63 : n + m ≤ 9223372036854775807) (hbytes : (n + m) * bytes ≤ 140737488355328)
    (h : ∀ cap w', w'.ownsRow w.heap.size e size (.slice (some ⟨w.heap.size, 0, none⟩) (n + m) cap) (n + m) (xs ++ news) → Below w.heap.size w w' → K (a.put o.dst (.slice (some ⟨w.heap.size, 0, none⟩) (n + m) cap)) w') : o.wp P a w K Q := by
  obtain ⟨cap, w', hr, h2, h3⟩ := run_append_full (P := P) w t o.type e i z size bytes ht hi hz hsize hby hzs v n xs hv hrd ad m c news hl hnews hm h63 hbytes
  unfold Oper.wp execOp
  simp only [ho, resolve, invoke, builtin, Sem.run_bind, Sem.run_pure, Result.andThen_ok, List.map_toArray, List.map_cons, List.map_nil, hs, hx, hr]
  exact h cap w' h2 h3

theorem wpList_append_full {ops : Array Oper} {rest : List Oper} {o : Oper} {a : Act} {Q : Exit → Act → World → Prop} (hgd : o.guard = none) (s x : Operand) (t : TypeId)
    (ho : o.op = .call { callee := .builtin .append, args := #[s, x], argTypes := #[t, t] })
    (e : TypeId) (i : TypeInfo) (z : Value) (size bytes : Nat) (ht : P.underlying t = some (.slice e)) (hi : P.info? e = some i) (hz : i.zero = some z) (hsize : i.size = size) (hby : i.bytes = bytes) (hzs : z.cells.size = size)
    (v : Value) (n : Nat) (xs : List Value) (hs : a.eval s = v) (hv : ∃ a, v = .slice a n n) (hrd : Rd w size v n xs)
    (ad : Addr) (m c : Nat) (news : List Value) (hx : a.eval x = .slice (some ad) m c) (hl : news.length = m * size) (hnews : ∀ j u, news[j]? = some u → w.cell? (ad.add j) = some u)
    (hm : 0 < m) (h63 : n + m ≤ 9223372036854775807) (hbytes : (n + m) * bytes ≤ 140737488355328)
    (h : ∀ cap w', w'.ownsRow w.heap.size e size (.slice (some ⟨w.heap.size, 0, none⟩) (n + m) cap) (n + m) (xs ++ news) → Below w.heap.size w w' → wpList P ops Q rest (a.put o.dst (.slice (some ⟨w.heap.size, 0, none⟩) (n + m) cap)) w') : wpList P ops Q (o :: rest) a w :=
  wpList_plain hgd fun _ hK => wp_append_full w s x t ho e i z size bytes ht hi hz hsize hby hzs v n xs hs hv hrd ad m c news hx hl hnews hm h63 hbytes fun cap w' h2 h3 => hK _ _ (h cap w' h2 h3)

theorem step_append_full {ops : Array Oper} {o : Oper} {a : Act} {K : Act → World → Prop} {Q : Exit → Act → World → Prop} {E : Prop} (hgd : o.guard = none) (s x : Operand) (t : TypeId)
    (ho : o.op = .call { callee := .builtin .append, args := #[s, x], argTypes := #[t, t] })
    (e : TypeId) (i : TypeInfo) (z : Value) (size bytes : Nat) (ht : P.underlying t = some (.slice e)) (hi : P.info? e = some i) (hz : i.zero = some z) (hsize : i.size = size) (hby : i.bytes = bytes) (hzs : z.cells.size = size)
    (v : Value) (n : Nat) (xs : List Value) (hs : a.eval s = v) (hv : ∃ a, v = .slice a n n) (hrd : Rd w size v n xs)
    (ad : Addr) (m c : Nat) (news : List Value) (hx : a.eval x = .slice (some ad) m c) (hl : news.length = m * size) (hnews : ∀ j u, news[j]? = some u → w.cell? (ad.add j) = some u)
    (hm : 0 < m) (h63 : n + m ≤ 9223372036854775807) (hbytes : (n + m) * bytes ≤ 140737488355328)
    (h : ∀ cap w', w'.ownsRow w.heap.size e size (.slice (some ⟨w.heap.size, 0, none⟩) (n + m) cap) (n + m) (xs ++ news) → Below w.heap.size w w' → K (a.put o.dst (.slice (some ⟨w.heap.size, 0, none⟩) (n + m) cap)) w') :
    if Region.wanted o (yielded ops a.tmps) = true then Oper.wp P o a w K Q else E := by
  have hw : Region.wanted o (yielded ops a.tmps) = true := by simp [Region.wanted, hgd]
  rw [if_pos hw]
  exact wp_append_full w s x t ho e i z size bytes ht hi hz hsize hby hzs v n xs hs hv hrd ad m c news hx hl hnews hm h63 hbytes h
end

theorem ClipBatch_any (a : Option Addr) (n c : Nat) (h : n ≤ c) (h0 : a = none → n = 0 ∧ c = 0) (hc : c ≤ 9223372036854775807) (w : World) : Calls Tryz.prog 92 #[.slice a n c] w fun e w' => e = .returned (.slice a n n) ∧ w' = w := by
  have q0 : ¬ (n : Int) < 0 := by omega
  have q1 : ¬ (c : Int) < (n : Int) := by omega
  cases a with
  | none =>
    obtain ⟨rfl, rfl⟩ := h0 rfl
    go_enter Tryz.func92, Tryz.ntmps92
    go_wp2
    go_ret
    exact ⟨rfl, rfl⟩
  | some a =>
    go_enter Tryz.func92, Tryz.ntmps92
    go_wp2
    go_ret
    exact ⟨by simp, rfl⟩
end Go.Proofs.YtcpaaleogmiamaaGreatDoor
