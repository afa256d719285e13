/- Rows of messages that grow; a master beside such a row. -/
import Derived.Test.YtcpaaleogmiamaaGreatDoorMh36
import Derived.Laws.AppendOwnNone
namespace Go.Proofs.YtcpaaleogmiamaaGreatDoor
open Go.RowKit

/-- A row of messages that the call owns. -/
def MsOwn (w : World) (N : Nat) (v : Value) (E : List Pm) : Prop := ∃ ms, w.ownsRow N 47 38 v E.length ms ∧ (∀ u ∈ ms, u.oneCell' = true) ∧ MsRel E ms

theorem MsRel.length {E : List Pm} {ms : List Value} (h : MsRel E ms) : ms.length = E.length * 38 := by
  obtain ⟨Ls, rfl, h2⟩ := h
  induction h2 with
  | nil => rfl
  | cons h1 _ ih =>
    rw [List.flatten_cons, List.length_append, ih, h1.length, List.length_cons]
    omega
theorem MsOwn.of {w : World} {N n : Nat} {v : Value} {E : List Pm} {ms : List Value} (h : w.ownsRow N 47 38 v n ms) (h1 : ∀ u ∈ ms, u.oneCell' = true) (h2 : MsRel E ms) : MsOwn w N v E ∧ n = E.length := by
  have e1 := h.1
  have e2 := h2.length
  have e : n = E.length := by omega
  subst e
  exact ⟨⟨ms, h, h1, h2⟩, rfl⟩
theorem MsOwn.nil (w : World) (N : Nat) : MsOwn w N (.slice none 0 0) [] := ⟨[], World.ownsRow_nil _ _ _ _, by simp, MsRel.nil⟩
theorem MsOwn.upd {w w' : World} {F : Nat → Prop} {N : Nat} {v : Value} {E : List Pm} (h : MsOwn w N v E) (hu : Upd F w w') (hF : ∀ g, v.ownBlock = some g → ¬ F g) : MsOwn w' N v E := by
  obtain ⟨ms, h0, h1, h2⟩ := h
  exact ⟨ms, owns_upd h0 hu hF, h1, h2⟩
theorem MsOwn.below {w w' : World} {N : Nat} {v : Value} {E : List Pm} (h : MsOwn w N v E) (hb : Below w.heap.size w w') : MsOwn w' N v E := h.upd (F := fun _ => False) (.of_below hb) (fun _ _ h => h)
theorem MsOwn.mono {w : World} {N N' : Nat} {v : Value} {E : List Pm} (h : MsOwn w N v E) (hN : N' ≤ N) : MsOwn w N' v E := by
  obtain ⟨ms, h0, h1, h2⟩ := h
  exact ⟨ms, owns_mono h0 hN, h1, h2⟩
theorem MsOwn.lt {w : World} {N : Nat} {v : Value} {E : List Pm} (h : MsOwn w N v E) : ∀ g, v.ownBlock = some g → N ≤ g ∧ g < w.heap.size := by
  obtain ⟨ms, h0, -⟩ := h
  exact owns_lt h0
theorem MsOwn.kind {w : World} {N : Nat} {v : Value} {E : List Pm} (h : MsOwn w N v E) : ∀ g, v.ownBlock = some g → ∃ cur, w.heap[g]? = some (.cells cur 47 (0, 0)) := by
  obtain ⟨ms, h0, -⟩ := h
  intro g hg
  rcases h0.2 with ⟨e, _⟩ | ⟨g', cap, cur, hv, _, h3, _⟩
  · rw [e] at hg; cases hg
  · rw [hv] at hg
    simp only [Value.ownBlock, Option.some.injEq] at hg
    subst hg
    exact ⟨cur, h3⟩
theorem MsOwn.shape {w : World} {N : Nat} {v : Value} {E : List Pm} (h : MsOwn w N v E) : ∃ a c, v = .slice a E.length c := by
  obtain ⟨ms, h0, -⟩ := h
  obtain ⟨a, c, e, -⟩ := (Sl.of_owns h0).shape
  exact ⟨a, c, e⟩
theorem MsOwn.rd {w : World} {N : Nat} {v : Value} {E : List Pm} (h : MsOwn w N v E) : ∃ ms, Rd w 38 v E.length ms ∧ (∀ u ∈ ms, u.oneCell' = true) ∧ MsRel E ms := by
  obtain ⟨ms, h0, h1, h2⟩ := h
  exact ⟨ms, (Sl.of_owns h0).rd, h1, h2⟩
/-- The first word of a message that stands alone in a new block. -/
theorem rd_new_msg (w : World) (cs : List Value) (h : cs.length = 38) (T : TypeId) : Rd (w.alloc (.cells cs.toArray T)) 38 (.slice (some ⟨w.heap.size, 0, none⟩) 1 1) 1 cs :=
  ⟨by omega, .inr ⟨_, 1, rfl, Nat.le_refl _, by unfold maxLen; omega, World.news_of_block (cs := cs.toArray) (t := T) (fr := (0, 0)) (heap_alloc_new w _)⟩⟩

theorem wpList_append_ms {w : World} {ops : Array Oper} {rest : List Oper} {o : Oper} {a : Act} {Q : Exit → Act → World → Prop} (hgd : o.guard = none) (s x : Operand)
    (ho : o.op = .call { callee := .builtin .append, args := #[s, x], argTypes := #[32, 32] })
    (N : Nat) (v : Value) (E : List Pm) (hs : a.eval s = v) (hm : MsOwn w N v E)
    (xv : Value) (E' : List Pm) (hx : a.eval x = xv) (hr : ∃ ms, Rd w 38 xv E'.length ms ∧ (∀ u ∈ ms, u.oneCell' = true) ∧ MsRel E' ms)
    (hlen : E.length + E'.length ≤ 100000) (hN : N ≤ w.heap.size)
    (h : ∀ a' c' w', MsOwn w' N (.slice a' (E.length + E'.length) c') (E ++ E') → Upd (fun k => some k = v.ownBlock) w w' → ((Value.slice a' (E.length + E'.length) c').ownBlock = v.ownBlock ∨ (Value.slice a' (E.length + E'.length) c').ownBlock = some w.heap.size) →
      wpList Tryz.prog ops Q rest (a.put o.dst (.slice a' (E.length + E'.length) c')) w') : wpList Tryz.prog ops Q (o :: rest) a w := by
  obtain ⟨ms, hown, h1, h2⟩ := hm
  obtain ⟨news, hrd, h1', h2'⟩ := hr
  obtain ⟨i0, hi0, hz0, hz1, hz2⟩ := info_parts info_Msg
  rcases hrd.2 with ⟨h0, hn0⟩ | ⟨ad, cap, h0, hle, hcap, hc⟩
  · have hE : E' = [] := List.length_eq_zero_iff.1 hn0
    subst hE
    obtain ⟨va, vc, hv, -⟩ := (Sl.of_owns hown).shape
    refine wpList_append_own_none hgd s x 32 ho N 47 i0 38 und_Msgs hi0 v E.length ms hs hown (hx.trans h0) ?_
    have := h va vc w (by rw [List.append_nil]; exact ⟨ms, by rw [List.length_nil, Nat.add_zero, ← hv]; exact hown, h1, h2⟩) (Upd.refl _ _) (.inl (by rw [List.length_nil, Nat.add_zero, ← hv]))
    rw [List.length_nil, Nat.add_zero, ← hv] at this
    exact this
  · refine wpList_append_own_at _ hgd s x 32 ho N 47 i0 _ 38 432 und_Msgs hi0 hz0 hz1 hz2 rfl (by decide) v E.length ms hs hown ad E'.length cap news (hx.trans h0) hrd.1 hc h1' (by unfold maxLen; omega) (by omega) hN ?_
    intro v' w' hown' hgrow _ hblk
    obtain ⟨va, vc, hv, -⟩ := (Sl.of_owns hown').shape
    rw [hv] at hown' hblk ⊢
    refine h va vc w' ⟨ms ++ news, by rw [List.length_append]; exact hown', fun u hu => (List.mem_append.1 hu).elim (h1 u) (h1' u), h2.append h2'⟩ (upd_grown hgrow) hblk

theorem HmW.notMsg {w0 w : World} {hb b mb q : Nat} {L : TpL} {t : Tp} {v : Value} {p : Pl} {M : List (Int × Int)} {life : Int} {dead : Bool} (h : HmW w0 w hb b mb q L t v p M life dead) : ∀ k, HmF hb b mb q L k → ¬ ∃ cur, w.heap[k]? = some (.cells cur 47 (0, 0)) := by
  rintro k hk ⟨cur, hc⟩
  rcases hk with rfl | rfl | hk
  · obtain ⟨pv, lv, -, hblk⟩ := h.hm.blk
    rw [hblk] at hc
    simp at hc
  · obtain ⟨es, cl, m1, -⟩ := h.hm.miss
    rw [m1] at hc
    simp at hc
  · rcases h.hm.tape.kinds k hk with ⟨cs, h1⟩ | ⟨es, cl, h1⟩ | ⟨cs, h1⟩ <;> rw [h1] at hc <;> simp at hc

/-- What else is written, and the plan stands: K0 tells which. -/
def KeepAt (K0 : (Nat → Prop) → Prop) (w : World) (hb b mb q : Nat) (L : TpL) (v : Value) (p : Pl) : Prop := ∀ Z : Nat → Prop, K0 Z → (∀ k, Z k → k < w.heap.size) ∧ PlanOff w (fun k => HmF hb b mb q L k ∨ Z k) v p
theorem KeepAt.none {w : World} {hb b mb q : Nat} {L : TpL} {v : Value} {p : Pl} : KeepAt (fun _ => False) w hb b mb q L v p := fun _ h => h.elim
theorem KeepAt.below {K0 : (Nat → Prop) → Prop} {w w' : World} {hb b mb q : Nat} {L : TpL} {v : Value} {p : Pl} (h : KeepAt K0 w hb b mb q L v p) (hb' : Below w.heap.size w w') : KeepAt K0 w' hb b mb q L v p :=
  fun Z hz => ⟨fun k hk => Nat.lt_of_lt_of_le ((h Z hz).1 k hk) hb'.size, (h Z hz).2.below hb'⟩
/-- The plan stands beside a new row. -/
def OffNew (K0 : (Nat → Prop) → Prop) (ws w : World) (hb b mb q : Nat) (L : TpL) (g : Option Nat) (v : Value) (p : Pl) : Prop := PlanOff w (fun k => HmF hb b mb q L k ∨ some k = g) v p ∧
  ∀ Z : Nat → Prop, K0 Z → (∀ k, Z k → k < ws.heap.size) ∧ PlanOff w (fun k => (HmF hb b mb q L k ∨ some k = g) ∨ Z k) v p

/-- A master beside a row of messages that grows, since a world ws. -/
structure BtW (w0 ws : World) (K0 : (Nat → Prop) → Prop) (L0 : TpL) (w : World) (hb b mb q : Nat) (L : TpL) (t : Tp) (v : Value) (p : Pl) (M : List (Int × Int)) (life : Int) (dead : Bool) (ov : Value) (E : List Pm) : Prop where
  hm : HmW w0 w hb b mb q L t v p M life dead
  off : PlanOff w (fun k => HmF hb b mb q L k ∨ some k = ov.ownBlock) v p
  row : MsOwn w ws.heap.size ov E
  upd : Upd (HmF hb b mb q L0) ws w
  new : ∀ k ∈ tpBlocks L, k ∈ tpBlocks L0 ∨ ws.heap.size ≤ k
  keep : ∀ Z : Nat → Prop, K0 Z → (∀ k, Z k → k < ws.heap.size) ∧ PlanOff w (fun k => (HmF hb b mb q L k ∨ some k = ov.ownBlock) ∨ Z k) v p

section
variable {w0 ws : World} {K0 : (Nat → Prop) → Prop} {L0 : TpL} {w w' : World} {hb b mb q : Nat} {L : TpL} {t : Tp} {v : Value} {p : Pl} {M : List (Int × Int)} {life : Int} {dead : Bool} {ov : Value} {E : List Pm}

theorem BtW.start {ws : World} (h : HmW w0 ws hb b mb q L t v p M life dead) (hK : KeepAt K0 ws hb b mb q L v p) : BtW w0 ws K0 L ws hb b mb q L t v p M life dead (.slice none 0 0) [] :=
  ⟨h, h.hm.plan.grow (fun _ hk => .inl (hk.elim id (fun e => by cases e))), MsOwn.nil _ _, Upd.refl _ _, fun _ hk => .inl hk, fun Z hz => ⟨(hK Z hz).1, (hK Z hz).2.grow (fun _ hk => .inl (hk.elim (fun hk => hk.elim .inl (fun e => by cases e)) .inr))⟩⟩
theorem BtW.below (h : BtW w0 ws K0 L0 w hb b mb q L t v p M life dead ov E) (hb' : Below w.heap.size w w') : BtW w0 ws K0 L0 w' hb b mb q L t v p M life dead ov E :=
  ⟨h.hm.below hb', h.off.below hb', h.row.below hb', h.upd.trans (Upd.of_below hb'), h.new, fun Z hz => ⟨(h.keep Z hz).1, (h.keep Z hz).2.below hb'⟩⟩

/-- Behind an event. -/
theorem BtW.did (h : BtW w0 ws K0 L0 w hb b mb q L t v p M life dead ov E) {R : Tp × Pl × Bool × Int} {E1 : List Pm} {e : Ending} (hd : DoneTo w0 w hb b mb q L v p M life R E1 e w') :
    ∃ (a : Option Addr) (c : Nat) (L' : TpL) (v' : Value), e = .returned (.tuple #[.slice a E1.length c, .int .i64 R.2.2.2]) ∧ BtW w0 ws K0 L0 w' hb b mb q L' R.1 v' R.2.1 M life R.2.2.1 ov E ∧ MsOwn w' w.heap.size (.slice a E1.length c) E1 ∧ E1.length ≤ 1000 ∧ OffNew K0 ws w' hb b mb q L' (Value.slice a E1.length c).ownBlock v' R.2.1 := by
  obtain ⟨lv, n, ms, L', v', rfl, h1, h2, h3, h4, h5, h6, h7, h8⟩ := hd
  obtain ⟨h9, rfl⟩ := MsOwn.of h5 h6 h7
  obtain ⟨a, c, rfl⟩ := h9.shape
  have hlt := h.hm.fLt
  have hall := h8 (fun k => HmF hb b mb q L k ∨ some k = ov.ownBlock) (fun k hk => .inl hk) (fun k hk => hk.elim (hlt k) (fun e => (h.row.lt k e.symm).2)) h.off
  have hallZ : ∀ Z : Nat → Prop, K0 Z → PlanOff w' (fun k => (((HmF hb b mb q L k ∨ some k = ov.ownBlock) ∨ Z k) ∨ k ∈ tpBlocks L') ∨ some k = (Value.slice a E1.length c).ownBlock) v' R.2.1 := fun Z hz =>
    h8 (fun k => (HmF hb b mb q L k ∨ some k = ov.ownBlock) ∨ Z k) (fun k hk => .inl (.inl hk)) (fun k hk => hk.elim (fun hk => hk.elim (hlt k) (fun e => (h.row.lt k e.symm).2)) (fun hk => Nat.lt_of_lt_of_le ((h.keep Z hz).1 k hk) h.upd.size)) (h.keep Z hz).2
  refine ⟨a, c, L', v', rfl, ⟨h1, ?_, ?_, ?_, ?_, fun Z hz => ⟨(h.keep Z hz).1, ?_⟩⟩, h9, h4, ?_, fun Z hz => ⟨(h.keep Z hz).1, ?_⟩⟩
  · refine hall.grow (fun k hk => .inl ?_)
    rcases hk with (e | e | e | e | hk) | hk
    · exact .inl (.inl (.inl (.inl e)))
    · exact .inl (.inl (.inl (.inr (.inl e))))
    · exact .inl (.inl (.inl (.inr (.inr (.inl e)))))
    · exact .inl (.inl (.inl (.inr (.inr (.inr (.inl e))))))
    · exact .inl (.inr hk)
    · exact .inl (.inl (.inr hk))
  · exact h.row.upd h2 (fun g hg hf => h.hm.notMsg g hf (h.row.kind g hg))
  · have hu : Upd (fun k => HmF hb b mb q L0 k ∨ ws.heap.size ≤ k) ws w' := by
      refine (h.upd.or (fun k hk => .inl hk)).trans (h2.or (fun k hk => ?_))
      rcases hk with e | e | e | e | hk
      · exact .inl (.inl e)
      · exact .inl (.inr (.inl e))
      · exact .inl (.inr (.inr (.inl e)))
      · exact .inl (.inr (.inr (.inr (.inl e))))
      · exact (h.new k hk).elim (fun e => .inl (.inr (.inr (.inr (.inr e))))) .inr
    exact ⟨hu.os, hu.tape, hu.output, hu.size, fun k hk hn => hu.block k hk (fun e => e.elim hn (fun e => by omega))⟩
  · intro k hk
    have hsz := h.upd.size
    rcases h3 k hk with e | e
    · exact h.new k e
    · exact .inr (by omega)
  · refine (hallZ Z hz).grow (fun k hk => .inl ?_)
    rcases hk with ((e | e | e | e | hk) | hk) | hk
    · exact .inl (.inl (.inl (.inl (.inl e))))
    · exact .inl (.inl (.inl (.inl (.inr (.inl e)))))
    · exact .inl (.inl (.inl (.inl (.inr (.inr (.inl e))))))
    · exact .inl (.inl (.inl (.inl (.inr (.inr (.inr (.inl e)))))))
    · exact .inl (.inr hk)
    · exact .inl (.inl (.inl (.inr hk)))
    · exact .inl (.inl (.inr hk))
  · refine hall.grow (fun k hk => .inl ?_)
    rcases hk with (e | e | e | e | hk) | hk
    · exact .inl (.inl (.inl (.inl e)))
    · exact .inl (.inl (.inl (.inr (.inl e))))
    · exact .inl (.inl (.inl (.inr (.inr (.inl e)))))
    · exact .inl (.inl (.inl (.inr (.inr (.inr (.inl e))))))
    · exact .inl (.inr hk)
    · exact .inr hk
  · refine (hallZ Z hz).grow (fun k hk => .inl ?_)
    rcases hk with ((e | e | e | e | hk) | hk) | hk
    · exact .inl (.inl (.inl (.inl (.inl e))))
    · exact .inl (.inl (.inl (.inl (.inr (.inl e)))))
    · exact .inl (.inl (.inl (.inl (.inr (.inr (.inl e))))))
    · exact .inl (.inl (.inl (.inl (.inr (.inr (.inr (.inl e)))))))
    · exact .inl (.inr hk)
    · exact .inr hk
    · exact .inl (.inl (.inr hk))

/-- The messages of the first event are the row. -/
theorem BtW.took (h : BtW w0 ws K0 L0 w hb b mb q L t v p M life dead ov E) {nv : Value} {E1 : List Pm} {N : Nat} (hr : MsOwn w N nv E1) (hN : ws.heap.size ≤ N) (ho : OffNew K0 ws w hb b mb q L nv.ownBlock v p) :
    BtW w0 ws K0 L0 w hb b mb q L t v p M life dead nv E1 := ⟨h.hm, ho.1, hr.mono hN, h.upd, h.new, ho.2⟩

/-- Blocks of messages are written; the master stays. -/
theorem HmW.msgs (h : HmW w0 w hb b mb q L t v p M life dead) {g : Option Nat} (hoff : PlanOff w (fun k => HmF hb b mb q L k ∨ some k = g) v p) (hu : Upd (fun k => some k = g) w w') (hg : ∀ k, some k = g → w0.heap.size ≤ k ∧ ∃ cur, w.heap[k]? = some (.cells cur 47 (0, 0))) :
    HmW w0 w' hb b mb q L t v p M life dead := by
  have hn : ∀ k, HmF hb b mb q L k → ¬ some k = g := fun k hk e => h.notMsg k hk (hg k e).2
  obtain ⟨pv, lv, e, hblk⟩ := h.hm.blk
  refine ⟨⟨⟨pv, lv, e, (hu.block _ (h.fLt hb (.inl rfl)) (hn hb (.inl rfl))).trans hblk⟩, h.hm.tape.upd hu (fun k hk => hn k (.inr (.inr hk))), (hoff.upd hu (fun k e => .inr e)).grow (fun k hk => .inl (.inl hk)), h.hm.miss.upd hu (hn q (.inr (.inl rfl))), h.hm.ne⟩, h.base.trans (hu.toBelow h.base.size (fun k e => (hg k e).1)), h.above⟩

/-- The row has grown. -/
theorem BtW.grew (h : BtW w0 ws K0 L0 w hb b mb q L t v p M life dead ov E) (hws : w0.heap.size ≤ ws.heap.size) {ov' : Value} {E' : List Pm} (hrow : MsOwn w' ws.heap.size ov' E') (hu : Upd (fun k => some k = ov.ownBlock) w w') (hblk : ov'.ownBlock = ov.ownBlock ∨ ov'.ownBlock = some w.heap.size) :
    BtW w0 ws K0 L0 w' hb b mb q L t v p M life dead ov' E' := by
  have hg : ∀ k, some k = ov.ownBlock → w0.heap.size ≤ k ∧ ∃ cur, w.heap[k]? = some (.cells cur 47 (0, 0)) := fun k e => ⟨Nat.le_trans hws (h.row.lt k e.symm).1, h.row.kind k e.symm⟩
  refine ⟨h.hm.msgs h.off hu hg, ?_, hrow, ?_, h.new, fun Z hz => ⟨(h.keep Z hz).1, ?_⟩⟩
  · have h1 : PlanOff w (fun k => (HmF hb b mb q L k ∨ some k = ov.ownBlock) ∨ w.heap.size ≤ k) v p := h.off.grow (fun k hk => hk)
    refine (h1.upd hu (fun k e => .inl (.inr e))).grow (fun k hk => .inl ?_)
    rcases hk with hk | hk
    · exact .inl (.inl hk)
    · rcases hblk with e | e
      · exact .inl (.inr (by rw [← e]; exact hk))
      · rw [e] at hk
        simp only [Option.some.injEq] at hk
        exact .inr (by omega)
  · have h2 : Upd (fun k => HmF hb b mb q L0 k ∨ ws.heap.size ≤ k) ws w' := (h.upd.or (fun k hk => .inl hk)).trans (hu.or (fun k e => .inr (h.row.lt k e.symm).1))
    exact ⟨h2.os, h2.tape, h2.output, h2.size, fun k hk hn => h2.block k hk (fun e => e.elim hn (fun e => by omega))⟩
  · have h1 : PlanOff w (fun k => ((HmF hb b mb q L k ∨ some k = ov.ownBlock) ∨ Z k) ∨ w.heap.size ≤ k) v p := (h.keep Z hz).2.grow (fun k hk => hk)
    refine (h1.upd hu (fun k e => .inl (.inl (.inr e)))).grow (fun k hk => .inl ?_)
    rcases hk with (hk | hk) | hk
    · exact .inl (.inl (.inl hk))
    · rcases hblk with e | e
      · exact .inl (.inl (.inr (by rw [← e]; exact hk)))
      · rw [e] at hk
        simp only [Option.some.injEq] at hk
        exact .inr (by omega)
    · exact .inl (.inr hk)

/-- The misses are others. -/
theorem BtW.miss (h : BtW w0 ws K0 L0 w hb b mb q L t v p M life dead ov E) {M' : List (Int × Int)} (hm : MapIs w' q (missM M')) (hu : Upd (fun k => k = q) w w') : BtW w0 ws K0 L0 w' hb b mb q L t v p M' life dead ov E := by
  obtain ⟨n1, n2, n3, n4, n5⟩ := h.hm.hm.apart
  obtain ⟨pv, lv, e, hblk⟩ := h.hm.hm.blk
  refine ⟨⟨⟨⟨pv, lv, e, (hu.block _ n4 n3).trans hblk⟩, h.hm.hm.tape.upd hu (fun k hk e => n2 (by rw [← e]; exact hk)), h.hm.hm.plan.upd hu (fun k e => .inr (.inl e)), hm, h.hm.hm.ne⟩, h.hm.base.trans (hu.toBelow h.hm.base.size (fun k e => h.hm.above k (.inr (.inl e)))), h.hm.above⟩, h.off.upd hu (fun k e => .inl (.inr (.inl e))), h.row.upd hu (fun g hg e => h.hm.notMsg g (.inr (.inl e)) (h.row.kind g hg)), ?_, h.new, fun Z hz => ⟨(h.keep Z hz).1, (h.keep Z hz).2.upd hu (fun k e => .inl (.inl (.inr (.inl e))))⟩⟩
  have h2 : Upd (fun k => HmF hb b mb q L0 k) ws w' := h.upd.trans (hu.or (fun k e => .inr (.inl e)))
  exact h2
end
end Go.Proofs.YtcpaaleogmiamaaGreatDoor
