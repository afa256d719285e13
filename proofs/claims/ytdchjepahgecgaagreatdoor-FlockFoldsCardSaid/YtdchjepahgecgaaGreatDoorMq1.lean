/- Laws at an operation, more. -/
/- Rows that the call owns. -/
import Derived.Test.YtdchjepahgecgaaGreatDoorBase
namespace Go.Proofs.YtdchjepahgecgaaGreatDoor
open Go.RowKit

theorem step_mapUpdate {P : Program} {ops : Array Oper} {o : Oper} {a : Act} {w : World} {K : Act → World → Prop} {Q : Exit → Act → World → Prop} {E : Prop} (hgd : o.guard = none)
    (T : TypeId) (m k v : Operand) (ho : o.op = .mapUpdate T m k v) (B : Nat) (key : Int) (val : Value) (hm : a.eval m = .map (some B)) (hk : a.eval k = .int .i64 key) (hv : a.eval v = val)
    {KT ET : TypeId} (hT : P.underlying T = some (.map KT ET)) (hK : P.underlying KT = some (.int .i64)) {mm : List (Int × Value)} (hmap : MapIs w B mm)
    (h : ∀ w', Upd (fun k => k = B) w w' → MapIs w' B (mput mm key val) → K (a.put o.dst undef) w') :
    if Region.wanted o (yielded ops a.tmps) = true then Oper.wp P o a w K Q else E := by
  rw [if_pos (by simp [Region.wanted, hgd])]
  obtain ⟨ob, hr, hm2⟩ := run_mapUpdate_ints hT hK hmap key val
  have hB : B < w.heap.size := by obtain ⟨_, _, hb, _⟩ := hmap; exact (Array.getElem?_eq_some_iff.1 hb).1
  unfold Oper.wp execOp
  simp only [ho, hm, hk, hv, Sem.run_bind, hr, Result.andThen, Sem.run_pure]
  exact h _ ⟨rfl, rfl, rfl, by simp, fun k hk hne => by simp [Ne.symm hne]⟩ hm2

theorem wpList_mapUpdate {P : Program} {ops : Array Oper} {rest : List Oper} {o : Oper} {a : Act} {w : World} {Q : Exit → Act → World → Prop} (hgd : o.guard = none)
    (T : TypeId) (m k v : Operand) (ho : o.op = .mapUpdate T m k v) (B : Nat) (key : Int) (val : Value) (hm : a.eval m = .map (some B)) (hk : a.eval k = .int .i64 key) (hv : a.eval v = val)
    {KT ET : TypeId} (hT : P.underlying T = some (.map KT ET)) (hK : P.underlying KT = some (.int .i64)) {mm : List (Int × Value)} (hmap : MapIs w B mm)
    (h : ∀ w', Upd (fun k => k = B) w w' → MapIs w' B (mput mm key val) → wpList P ops Q rest (a.put o.dst undef) w') :
    wpList P ops Q (o :: rest) a w :=
  wpList_step fun _K' hK' => step_mapUpdate hgd T m k v ho B key val hm hk hv hT hK hmap fun w' hu hm => hK' _ _ (h w' hu hm)

theorem MapIs.same {w w' : World} {B : Nat} {m : List (Int × Value)} (h : MapIs w B m) (hb : w'.heap[B]? = w.heap[B]?) : MapIs w' B m := by
  obtain ⟨es, cl, h1, h2⟩ := h
  exact ⟨es, cl, hb.trans h1, h2⟩

theorem upd_some {F : Nat → Prop} {w w' : World} (h : Upd F w w') {b o : Nat} {v : Value} (hc : w.cell? ⟨b, o, none⟩ = some v) (hb : ¬ F b) : w'.cell? ⟨b, o, none⟩ = some v := by
  have hlt : b < w.heap.size := World.block_lt_of_cell? w _ hc
  rw [← hc]
  exact World.cell?_of_block (h.block b hlt hb)

/-- A write to the map of block B, in the world w (behind a draw): the world w6 that it makes. -/
theorem mapUpdate_run {P : Program} {T K E : TypeId} (hT : P.underlying T = some (.map K E)) (hK : P.underlying K = some (.int .i64))
    {w : World} {B : Nat} {m : List (Int × Value)} (hm : MapIs w B m) (k : Int) (v : Value) :
    ∃ w6, (Instr.mapUpdate T (.map (some B)) (.int .i64 k) v).run P w = .ok () w6 ∧ MapIs w6 B (mput m k v) ∧ Upd (fun k => k = B) w w6 := by
  obtain ⟨ob, hr, hm2⟩ := run_mapUpdate_ints hT hK hm k v
  exact ⟨_, hr, hm2, rfl, rfl, rfl, by simp, fun k hk hne => by simp [Ne.symm hne]⟩

theorem MapIs.upd {w w' : World} {F : Nat → Prop} {B : Nat} {m : List (Int × Value)} (h : MapIs w B m) (hu : Upd F w w') (hB : ¬ F B) : MapIs w' B m := by
  obtain ⟨es, cl, h1, h2⟩ := h
  exact ⟨es, cl, (hu.block B (Array.getElem?_eq_some_iff.1 h1).1 hB).trans h1, h2⟩

theorem run_len_ints {P : Program} {T K E : TypeId} (hT : P.underlying T = some (.map K E)) {w : World} {B : Nat} {m : List (Int × Value)} (hm : MapIs w B m) (ty : TypeId) :
    (Builtin.len_ #[T] ty #[.map (some B)]).run P w = .ok (.int .i64 m.length) w := by
  obtain ⟨es, clock, hb, he, -⟩ := hm
  have : es.size = m.length := by have := congrArg List.length he; simpa using this
  simp [Builtin.len_, run_underlying hT, MapKept.run_getObj_map hb, goInt, Result.andThen, this]

theorem setCell_same {w : World} {b o : Nat} {v : Value} {c : Array Value} {T : TypeId} {fz : Nat × Nat} (h : w.heap[b]? = some (.cells c T fz)) :
    (w.setCell ⟨b, o, none⟩ v).heap[b]? = some (.cells (c.setIfInBounds o v) T fz) := by
  simp [World.setCell, Array.getElem?_modify, h]

theorem upd_setCell {F : Nat → Prop} {w w' : World} (h : Upd F w w') {b o : Nat} (hF : F b) (v : Value) : Upd F w (w'.setCell ⟨b, o, none⟩ v) :=
  h.trans ⟨rfl, rfl, rfl, by simp, fun k _ hk => Below.heap_setCell _ _ _ _ (fun e => hk (by rw [e]; exact hF))⟩
end Go.Proofs.YtdchjepahgecgaaGreatDoor
namespace Go.Proofs.YtdchjepahgecgaaGreatDoor
open Go.RowKit

theorem owns_upd {w w' : World} {F : Nat → Prop} {base e size : Nat} {v : Value} {n : Nat} {xs : List Value} (h : w.ownsRow base e size v n xs) (hu : Upd F w w') (hF : ∀ g, v.ownBlock = some g → ¬ F g) :
    w'.ownsRow base e size v n xs := by
  refine ⟨h.1, ?_⟩
  rcases h.2 with h | ⟨g, cap, cur, rfl, h2, h3, h4⟩
  · exact .inl h
  · exact .inr ⟨g, cap, cur, rfl, h2, by rw [hu.block g (Array.getElem?_eq_some_iff.1 h3).1 (hF g rfl)]; exact h3, h4⟩

theorem owns_mono {w : World} {base base' e size : Nat} {v : Value} {n : Nat} {xs : List Value} (h : w.ownsRow base e size v n xs) (hb : base' ≤ base) : w.ownsRow base' e size v n xs := by
  refine ⟨h.1, ?_⟩
  rcases h.2 with h | ⟨g, cap, cur, rfl, h2, h3⟩
  · exact .inl h
  · exact .inr ⟨g, cap, cur, rfl, by omega, h3⟩

theorem upd_grown {w w' : World} {r : Option Nat} (h : w.grownBy w' r) : Upd (fun k => some k = r) w w' := ⟨h.os, h.tape, h.output, h.size, fun k hk hne => h.block k hk hne⟩

theorem owns_types {w : World} {b b' e e' s s' : Nat} {v v' : Value} {n n' : Nat} {xs xs' : List Value} (h : w.ownsRow b e s v n xs) (h' : w.ownsRow b' e' s' v' n' xs') (hne : e ≠ e') :
    ∀ g, v.ownBlock = some g → ¬ some g = v'.ownBlock := by
  intro g hg hx
  rcases h.2 with ⟨rfl, _⟩ | ⟨g1, cap, cur, rfl, _, h3, _⟩
  · cases hg
  · rcases h'.2 with ⟨rfl, _⟩ | ⟨g2, cap', cur', rfl, _, h3', _⟩
    · cases hx
    · simp only [Value.ownBlock, Option.some.injEq] at hg hx
      subst hg; subst hx
      rw [h3] at h3'
      simp at h3'
      exact hne h3'.2

theorem owns_lt {w : World} {base e size : Nat} {v : Value} {n : Nat} {xs : List Value} (h : w.ownsRow base e size v n xs) : ∀ g, v.ownBlock = some g → base ≤ g ∧ g < w.heap.size := by
  intro g hg
  rcases h.2 with ⟨rfl, _⟩ | ⟨g1, cap, cur, rfl, h2, h3, _⟩
  · cases hg
  · simp only [Value.ownBlock, Option.some.injEq] at hg
    subst hg
    exact ⟨h2, (Array.getElem?_eq_some_iff.1 h3).1⟩

end Go.Proofs.YtdchjepahgecgaaGreatDoor
