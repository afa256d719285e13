import Derived.WalkKit
import Derived.WalkSpells
import Derived.WalkLawsBesides
import Derived.BigQuiet
import Derived.Deep.QuietTactic
import Derived.Lib.Hide
import Derived.ScopeJumps
import Derived.Deep.Light
import Derived.Deep.RegionHeld3
import Derived.Deep.AppendLies
import Derived.Deep.DeepCutAuto
import Derived.Deep.DeepFit
import Derived.Deep.DeepMust
import Derived.Deep.RegionLawGrows
import Derived.Deep.LoopGhost
import Derived.StillTailTactics
namespace Go.Proofs.YtcpaaleogmiamaaGreatDoor
open Go.RowKit

/-! maps with int keys -/
/-- Block b of w is a map whose entries are the pairs m, in this order. -/
def MapIs (w : World) (b : Nat) (m : List (Int × Value)) : Prop :=
  ∃ es clock, w.heap[b]? = some (.map es clock) ∧ es.toList.map (fun e => (e.key, e.val)) = m.map (fun p => (Value.int .i64 p.1, p.2)) ∧ MapKept.Stamped es clock

def mget (m : List (Int × Value)) (k : Int) : Option Value := (m.find? (fun p => p.1 == k)).map (·.2)
def mput : List (Int × Value) → Int → Value → List (Int × Value)
  | [], k, v => [(k, v)]
  | p :: m, k, v => if p.1 == k then (k, v) :: m else p :: mput m k v

theorem findNow_ints (k : Int) : ∀ (es : List MapEntry) (m : List (Int × Value)) (i : Nat),
    es.map (fun e => (e.key, e.val)) = m.map (fun p => (Value.int .i64 p.1, p.2)) →
    Instr.findNow (.int .i64) (.int .i64 k) es i = some ((m.findIdx? (fun p => p.1 == k)).map fun j => (i + j, ((m[j]?).map (·.2)).getD undef))
  | [], m, i, h => by
    cases m with
    | nil => simp [Instr.findNow]
    | cons a b => simp at h
  | e :: es, m, i, h => by
    cases m with
    | nil => simp at h
    | cons p m =>
      simp only [List.map_cons, List.cons.injEq, Prod.mk.injEq] at h
      obtain ⟨⟨h1, h2⟩, h3⟩ := h
      have ih := findNow_ints k es m (i + 1) h3
      simp only [Instr.findNow, h1, Instr.sameNow, if_true, List.findIdx?_cons]
      by_cases hk : p.1 = k
      · subst hk
        simp [h2]
      · have e1 : (k == p.1) = false := by simp; omega
        have e2 : (p.1 == k) = false := by simp; omega
        simp only [e1, e2, Bool.false_eq_true, if_false, ih, Option.map_map]
        congr 1
        cases m.findIdx? (fun p => p.1 == k) <;> simp <;> omega

theorem findIdx_mget (m : List (Int × Value)) (k : Int) :
    (m.findIdx? (fun p => p.1 == k)).map (fun j => ((m[j]?).map (·.2)).getD undef) = mget m k := by
  induction m with
  | nil => rfl
  | cons p m ih =>
    by_cases hk : p.1 = k
    · simp [List.findIdx?_cons, mget, hk]
    · have e2 : (p.1 == k) = false := by simp; omega
      simp only [List.findIdx?_cons, e2, mget, List.find?_cons, Bool.false_eq_true, if_false] at ih ⊢
      rw [← ih]
      cases m.findIdx? (fun p => p.1 == k) <;> simp

theorem run_underlying {P : Program} {T : TypeId} {d : TypeDesc} (h : P.underlying T = some d) (w : World) : (underlying T).run P w = .ok d w := by
  simp [underlying, go_sem, h]

theorem run_zero {P : Program} {T : TypeId} {z : Value} (h : (P.info? T).bind (·.zero) = some z) (w : World) : (zeroValue T).run P w = .ok z w := by
  cases hi : P.info? T with
  | none => simp [hi] at h
  | some i =>
    simp only [hi, Option.bind_some] at h
    simp [zeroValue, typeInfo, go_sem, hi, h]

theorem check_int {P : Program} {K : TypeId} (hK : P.underlying K = some (.int .i64)) (w : World) (e : Bool) (k : Int) :
    (Instr.checkKey e 10000 K (.int .i64 k)).run P w = .ok () w :=
  MapKept.run_checkKey hK (by trivial) e 9999

theorem run_lookup_ints {P : Program} {T K E : TypeId} {z : Value} (hT : P.underlying T = some (.map K E)) (hK : P.underlying K = some (.int .i64))
    (hz : (P.info? E).bind (·.zero) = some z) {w : World} {B : Nat} {m : List (Int × Value)} (hm : MapIs w B m) (k : Int) (ok : Bool) :
    (Instr.lookup T (.map (some B)) (.int .i64 k) ok).run P w = .ok (if ok then .tuple #[(mget m k).getD z, .bool (mget m k).isSome] else (mget m k).getD z) w := by
  obtain ⟨es, clock, hb, he, hstp⟩ := hm
  have hf := findNow_ints k es.toList m 0 he
  have hg := findIdx_mget m k
  have hff := MapKept.run_findKey (w := w) hK hf
  have hob := MapKept.run_getObj_map (P := P) hb
  unfold Instr.lookup
  simp only [Sem.run_bind, run_underlying hT, Result.andThen, Sem.run_pure, hob, check_int hK, hff]
  rw [← hg]
  cases m.findIdx? (fun p => p.1 == k) <;> cases ok <;> simp [run_zero hz, Result.andThen]

theorem mput_spec (k : Int) (v : Value) : ∀ (m : List (Int × Value)),
    (m.findIdx? (fun p => p.1 == k) = none → mput m k v = m ++ [(k, v)]) ∧
    (∀ j, m.findIdx? (fun p => p.1 == k) = some j → mput m k v = m.modify j (fun p => (p.1, v)))
  | [] => by simp [mput]
  | p :: m => by
    have ih := mput_spec k v m
    by_cases hk : p.1 = k
    · subst hk
      simp [List.findIdx?_cons, mput]
    · have e2 : (p.1 == k) = false := by simp; omega
      simp only [List.findIdx?_cons, e2, mput, Bool.false_eq_true, if_false]
      constructor
      · intro h
        rw [ih.1 (by simpa using h)]; rfl
      · intro j hj
        cases hx : m.findIdx? (fun p => p.1 == k) with
        | none => rw [hx] at hj; cases hj
        | some j' =>
          rw [hx] at hj
          simp only [Option.map_some, Option.some.injEq] at hj
          subst hj
          rw [ih.2 j' hx]; simp

/-- The world behind a write to the map in block B: only that block has changed, and it reads mput. -/
theorem run_mapUpdate_ints {P : Program} {T K E : TypeId} (hT : P.underlying T = some (.map K E)) (hK : P.underlying K = some (.int .i64))
    {w : World} {B : Nat} {m : List (Int × Value)} (hm : MapIs w B m) (k : Int) (v : Value) :
    ∃ o, (Instr.mapUpdate T (.map (some B)) (.int .i64 k) v).run P w = .ok () { w with heap := w.heap.setIfInBounds B o } ∧
      MapIs { w with heap := w.heap.setIfInBounds B o } B (mput m k v) := by
  obtain ⟨es, clock, hb, he, hstp⟩ := hm
  have hf := findNow_ints k es.toList m 0 he
  have hsp := mput_spec k v m
  have hff := MapKept.run_findKey (w := w) hK hf
  have hob := MapKept.run_getObj_map (P := P) hb
  cases hx : m.findIdx? (fun p => p.1 == k) with
  | none =>
    simp only [hx, Option.map_none] at hff
    have hnk : ∀ x ∈ es.toList, x.key ≠ .int .i64 k := by
      intro x hx1 e
      have h1 : (x.key, x.val) ∈ m.map (fun p => (Value.int .i64 p.1, p.2)) := by rw [← he]; exact List.mem_map.2 ⟨x, hx1, rfl⟩
      obtain ⟨p, hp, hpe⟩ := List.mem_map.1 h1
      have h2 := List.findIdx?_eq_none_iff.1 hx p hp
      simp only [Prod.mk.injEq] at hpe
      rw [e] at hpe
      simp only [Value.int.injEq, true_and] at hpe
      simp [hpe.1] at h2
    refine ⟨.map (es.push { key := .int .i64 k, val := v, born := clock }) (clock + 1), ?_, ⟨_, _, (MapKept.heap_set hb).1, ?_, MapKept.stamped_push hstp hnk⟩⟩
    · unfold Instr.mapUpdate
      simp only [Sem.run_bind, run_underlying hT, Result.andThen, hob, check_int hK, hff, MapKept.run_setObj_map _ hb]
    · rw [hsp.1 hx]; simp [he]
  | some j =>
    simp only [hx, Option.map_some, Nat.zero_add] at hff
    have hj : ∃ h : j < m.length, m[j].1 = k := by
      obtain ⟨h, h1, _⟩ := List.findIdx?_eq_some_iff_getElem.1 hx
      exact ⟨h, by simpa using h1⟩
    obtain ⟨hj1, hj2⟩ := hj
    have hlen : es.size = m.length := by have := congrArg List.length he; simpa using this
    have hk : es[j]?.map (·.key) = some (Value.int .i64 k) := by
      have := congrArg (fun l => l[j]?.map (·.1)) he
      simp only [List.getElem?_map, Option.map_map] at this
      rw [List.getElem?_eq_getElem hj1] at this
      simp only [Option.map_some, Function.comp_def, hj2] at this
      simpa [Function.comp_def] using this
    have hst : (Instr.keyThatStays (((es[j]?).map (·.key)).getD (.int .i64 k)) (.int .i64 k)).run P w = .ok (.int .i64 k) w := by
      rw [hk]; simp [Instr.keyThatStays, Instr.sameBits]
    refine ⟨.map (es.modify j fun e => { e with key := .int .i64 k, val := v }) clock, ?_, ⟨_, _, (MapKept.heap_set hb).1, ?_, MapKept.stamped_modify hstp j _ (fun _ _ => rfl) (fun e _ he2 => by rw [he2] at hk; simpa using hk.symm)⟩⟩
    · unfold Instr.mapUpdate
      simp only [Sem.run_bind, run_underlying hT, Result.andThen, hob, check_int hK, hff, hst, MapKept.run_setObj_map _ hb]
    · rw [hsp.2 j hx]
      apply List.ext_getElem?
      intro n
      have hn := congrArg (fun l => l[n]?) he
      simp only [List.getElem?_map] at hn
      simp only [Array.toList_modify, List.getElem?_map, List.getElem?_modify]
      by_cases e : j = n
      · subst e
        rw [List.getElem?_eq_getElem hj1] at hn ⊢
        simp only [if_true]
        cases h2 : es.toList[j]? with
        | none => rw [h2] at hn; simp at hn
        | some x => simp [hj2]
      · simp only [if_neg e]
        simpa using hn

/-- A scope with one label, jumped to from ahead of it only. -/
theorem wp_scope_goto {P : Program} {a : Act} {w : World} {Q : Exit → Act → World → Prop} {c rest : Code} (l : Nat) (hf : findLabel c l = some rest)
    (h : c.wp P (Exit.jump l (fun a w => rest.wp P (Exit.noGoto Q) a w) Q) a w) : (Code.scope c).wp P Q a w :=
  wp_scope_jumps l (fun a w => rest.wp P (Exit.noGoto Q) a w) (fun _ _ => 0) hf h fun a w hj =>
    Code.wp_mono (fun e a w q => by cases e <;> first | exact q | exact q.elim) hj
section
variable {l : Nat} {J : Act → World → Prop} {Q : Exit → Act → World → Prop} {a : Act} {w : World}
@[simp] theorem jump_normal : Exit.jump l J Q .normal a w = Q .normal a w := rfl
@[simp] theorem jump_exit (id : Nat) : Exit.jump l J Q (.exit id) a w = Q (.exit id) a w := rfl
@[simp] theorem jump_ret : Exit.jump l J Q .ret a w = Q .ret a w := rfl
@[simp] theorem jump_goto : Exit.jump l J Q (.goto l) a w = J a w := by simp [Exit.jump]
end

/-! slices -/
/-- v is a slice of n elements of type E (each of sz cells), whose cells are xs; nil, or behind an address of a block of such cells. -/
def Sl (w : World) (E sz : Nat) (v : Value) (n : Nat) (xs : List Value) : Prop :=
  xs.length = n * sz ∧ ((v = .slice none 0 0 ∧ n = 0) ∨
    ∃ b off cap cur fz, v = .slice (some ⟨b, off, none⟩) n cap ∧ n ≤ cap ∧ cap ≤ maxLen ∧ w.heap[b]? = some (.cells cur E fz) ∧ off + cap * sz ≤ cur.size ∧ (cur.toList.drop off).take (n * sz) = xs)

theorem Sl.of_owns {w : World} {base E sz : Nat} {v : Value} {n : Nat} {xs : List Value} (h : w.ownsRow base E sz v n xs) : Sl w E sz v n xs := by
  refine ⟨h.1, ?_⟩
  rcases h.2 with h | ⟨g, cap, cur, h1, _, h3, h4, h5, h6, h7⟩
  · exact .inl h
  · exact .inr ⟨g, 0, cap, cur, _, h1, h4, h5, h3, by omega, by simpa using h7⟩

/-- What has happened to memory: old blocks stay, but for those in F. -/
structure Upd (F : Nat → Prop) (w w' : World) : Prop where
  os : w'.os = w.os
  tape : w'.tape = w.tape
  output : w'.output = w.output
  size : w.heap.size ≤ w'.heap.size
  block : ∀ k, k < w.heap.size → ¬ F k → w'.heap[k]? = w.heap[k]?

theorem Upd.refl (F : Nat → Prop) (w : World) : Upd F w w := ⟨rfl, rfl, rfl, Nat.le_refl _, fun _ _ _ => rfl⟩
theorem Upd.trans {F : Nat → Prop} {a b c : World} (h : Upd F a b) (k : Upd F b c) : Upd F a c :=
  ⟨k.os.trans h.os, k.tape.trans h.tape, k.output.trans h.output, Nat.le_trans h.size k.size, fun i hi hf => (k.block i (Nat.lt_of_lt_of_le hi h.size) hf).trans (h.block i hi hf)⟩
theorem Upd.of_below {F : Nat → Prop} {w w' : World} (h : Below w.heap.size w w') : Upd F w w' := ⟨h.os, h.tape, h.output, h.size, fun k hk _ => h.block k hk⟩
theorem Upd.below {w w' : World} (h : Upd (fun _ => False) w w') : Below w.heap.size w w' := ⟨h.os, h.tape, h.output, h.size, fun k hk => h.block k hk (fun h => h)⟩
theorem Upd.mono {F G : Nat → Prop} {w w' : World} (h : Upd F w w') (hfg : ∀ k, k < w.heap.size → F k → G k) : Upd G w w' :=
  ⟨h.os, h.tape, h.output, h.size, fun k hk hg => h.block k hk (fun hf => hg (hfg k hk hf))⟩

theorem Sl.kept {w w' : World} {F : Nat → Prop} {E sz : Nat} {v : Value} {n : Nat} {xs : List Value} (h : Sl w E sz v n xs) (hu : Upd F w w')
    (hF : ∀ k, F k → ∀ cur T fz, w.heap[k]? ≠ some (.cells cur T fz)) : Sl w' E sz v n xs := by
  refine ⟨h.1, ?_⟩
  rcases h.2 with h | ⟨b, off, cap, cur, fz, h1, h2, h3, h4, h5⟩
  · exact .inl h
  · refine .inr ⟨b, off, cap, cur, fz, h1, h2, h3, ?_, h5⟩
    rw [hu.block b (Array.getElem?_eq_some_iff.1 h4).1 (fun hf => hF b hf _ _ _ h4)]
    exact h4

theorem Sl.below {w w' : World} {E sz : Nat} {v : Value} {n : Nat} {xs : List Value} (h : Sl w E sz v n xs) (hu : Below w.heap.size w w') : Sl w' E sz v n xs :=
  h.kept (F := fun _ => False) (.of_below hu) (fun _ h => h.elim)

/-- A slice that is not empty: where its cells are. -/
theorem Sl.at {w : World} {E sz : Nat} {v : Value} {n : Nat} {xs : List Value} (h : Sl w E sz v n xs) (hn : 0 < n) :
    ∃ b off cap, v = .slice (some ⟨b, off, none⟩) n cap ∧ n ≤ cap ∧ cap ≤ maxLen ∧ b < w.heap.size ∧ ∀ j u, xs[j]? = some u → w.cell? ⟨b, off + j, none⟩ = some u := by
  rcases h.2 with ⟨_, h⟩ | ⟨b, off, cap, cur, fz, h1, h2, h3, h4, h5, h6⟩
  · omega
  · refine ⟨b, off, cap, h1, h2, h3, (Array.getElem?_eq_some_iff.1 h4).1, ?_⟩
    intro j u hu
    rw [cell_of_row w b (off + j) cur E fz h4]
    rw [← h6, List.getElem?_take] at hu
    split at hu
    · simpa using hu
    · cases hu

/-- The slice without its first k elements. -/
theorem Sl.drop {w : World} {E sz : Nat} {b off cap n : Nat} {xs : List Value} (h : Sl w E sz (.slice (some ⟨b, off, none⟩) n cap) n xs) (k : Nat) (hk : k ≤ n) :
    Sl w E sz (.slice (some ⟨b, off + k * sz, none⟩) (n - k) (cap - k)) (n - k) (xs.drop (k * sz)) := by
  refine ⟨by rw [List.length_drop, h.1, Nat.sub_mul], ?_⟩
  rcases h.2 with ⟨h, _⟩ | ⟨b', off', cap', cur, fz, h1, h2, h3, h4, h5, h6⟩
  · cases h
  · simp only [Value.slice.injEq, Option.some.injEq, Addr.mk.injEq, and_true] at h1
    obtain ⟨⟨rfl, rfl⟩, _, rfl⟩ := h1
    refine .inr ⟨b, _, cap - k, cur, fz, rfl, by omega, by omega, h4, ?_, ?_⟩
    · have : cap * sz = k * sz + (cap - k) * sz := by rw [← Nat.add_mul]; congr 1; omega
      omega
    · rw [← h6, List.drop_take, List.drop_drop, Nat.sub_mul]

theorem Sl.shape {w : World} {E sz : Nat} {v : Value} {n : Nat} {xs : List Value} (h : Sl w E sz v n xs) : ∃ a cap, v = .slice a n cap ∧ n ≤ cap := by
  rcases h.2 with ⟨h1, rfl⟩ | ⟨b, off, cap, cur, fz, h1, h2, _⟩
  · exact ⟨none, 0, h1, Nat.le_refl _⟩
  · exact ⟨_, cap, h1, h2⟩

theorem upd_alloc (F : Nat → Prop) (w : World) (o : Obj) : Upd F w (w.alloc o) := ⟨rfl, rfl, rfl, by simp, fun k hk _ => Below.heap_alloc _ _ _ hk⟩
theorem upd_drew (F : Nat → Prop) (w : World) : Upd F w w.drew := ⟨rfl, rfl, rfl, Nat.le_refl _, fun _k _ _ => rfl⟩

theorem ret_b {a b : Bool} (h : a = b) : Ending.returned (.bool a) = .returned (.bool b) := by rw [h]
theorem ret_i {k : IntKind} {a b : Int} (h : a = b) : Ending.returned (.int k a) = .returned (.int k b) := by rw [h]

theorem bcell {W w1 : World} (hb : Below W.heap.size W w1) : (∀ b o, b < W.heap.size → w1.cell? ⟨b, o, none⟩ = W.cell? ⟨b, o, none⟩) ∧ (∀ b o, b < W.heap.size → w1.frozen? ⟨b, o, none⟩ = W.frozen? ⟨b, o, none⟩) :=
  ⟨fun b o h => hb.cell (p := ⟨b, o, none⟩) h, fun b o h => hb.frozen (p := ⟨b, o, none⟩) h⟩
theorem below_some {B : Nat} {w w' : World} (h : Below B w w') {b o : Nat} {v : Value} (hc : w.cell? ⟨b, o, none⟩ = some v) (hb : b < B) : w'.cell? ⟨b, o, none⟩ = some v :=
  (h.cell (p := ⟨b, o, none⟩) hb).trans hc

theorem Sl.maxlen {w : World} {E sz : Nat} {v : Value} {n : Nat} {xs : List Value} (h : Sl w E sz v n xs) : n ≤ maxLen := by
  rcases h.2 with ⟨_, rfl⟩ | ⟨b, off, cap, cur, fz, h1, h2, h3, _⟩
  · exact Nat.zero_le _
  · exact Nat.le_trans h2 h3

theorem heap_new1 (w : World) (a b : Obj) : ((w.alloc a).alloc b).heap[w.heap.size + 1]? = some b := by
  have := heap_alloc_new (w.alloc a) b
  simpa using this
theorem below_alloc (w : World) (o : Obj) : Below w.heap.size w (w.alloc o) := (Below.refl _ _).alloc (Nat.le_refl _) _
theorem below_alloc2 (w : World) (o o' : Obj) : Below w.heap.size w ((w.alloc o).alloc o') := (below_alloc w o).alloc (by simp) _
theorem below_alloc3 (w : World) (o o' o'' : Obj) : Below w.heap.size w (((w.alloc o).alloc o').alloc o'') := (below_alloc2 w o o').alloc (by simp; omega) _
/-- Two steps, each of which leaves all that was there. -/
theorem below_trans {a b c : World} (h : Below a.heap.size a b) (k : Below b.heap.size b c) : Below a.heap.size a c := h.trans (k.mono h.size)

theorem upd_drewN (F : Nat → Prop) (w : World) (n : Nat) : Upd F w (w.drewN n) := ⟨rfl, rfl, rfl, Nat.le_refl _, fun _k _ _ => rfl⟩
theorem below_drewN {B : Nat} {w w' : World} (h : Below B w w') (n : Nat) : Below B w (w'.drewN n) := ⟨h.os, h.tape, h.output, h.size, h.block⟩

/-! slices that came in: read cell by cell, whatever block they lie in -/
def Rd (w : World) (sz : Nat) (v : Value) (n : Nat) (xs : List Value) : Prop :=
  xs.length = n * sz ∧ ((v = .slice none 0 0 ∧ n = 0) ∨
    ∃ a cap, v = .slice (some a) n cap ∧ n ≤ cap ∧ cap ≤ maxLen ∧ ∀ j u, xs[j]? = some u → w.cell? (a.add j) = some u)

theorem Sl.rd {w : World} {E sz : Nat} {v : Value} {n : Nat} {xs : List Value} (h : Sl w E sz v n xs) : Rd w sz v n xs := by
  refine ⟨h.1, ?_⟩
  rcases h.2 with h | ⟨b, off, cap, cur, fz, h1, h2, h3, h4, h5, h6⟩
  · exact .inl h
  · refine .inr ⟨⟨b, off, none⟩, cap, h1, h2, h3, ?_⟩
    intro j u hu
    rw [Addr.add_lit, cell_of_row w b (off + j) cur E fz h4]
    rw [← h6, List.getElem?_take] at hu
    split at hu
    · simpa using hu
    · cases hu

theorem cell_upd {w w' : World} {F : Nat → Prop} (hu : Upd F w w') (hF : ∀ k cur T fz, w.heap[k]? = some (.cells cur T fz) → ¬ F k) {a : Addr} {u : Value} (hc : w.cell? a = some u) : w'.cell? a = some u := by
  rw [← hc]
  unfold World.cell? at hc ⊢
  cases hb : w.heap[a.block]? with
  | none => simp [hb] at hc
  | some o =>
    have hlt := (Array.getElem?_eq_some_iff.1 hb).1
    cases o with
    | cells cur T fz => rw [hu.block _ hlt (hF _ _ _ _ hb), hb]
    | _ => simp [hb] at hc

theorem cell_spot {w : World} {a : Addr} {v : Value} (h : w.cell? a = some v) : a.spot = none := by
  cases hsp : a.spot with
  | none => rfl
  | some x =>
    exfalso
    unfold World.cell? at h
    split at h
    · simp [hsp] at h
    · cases h

theorem Rd.upd {w w' : World} {F : Nat → Prop} {sz : Nat} {v : Value} {n : Nat} {xs : List Value} (h : Rd w sz v n xs) (hu : Upd F w w')
    (hF : ∀ k cur T fz, w.heap[k]? = some (.cells cur T fz) → ¬ F k) : Rd w' sz v n xs := by
  refine ⟨h.1, ?_⟩
  rcases h.2 with h | ⟨a, cap, h1, h2, h3, h4⟩
  · exact .inl h
  · exact .inr ⟨a, cap, h1, h2, h3, fun j u hj => cell_upd hu hF (h4 j u hj)⟩

theorem Rd.below {w w' : World} {sz : Nat} {v : Value} {n : Nat} {xs : List Value} (h : Rd w sz v n xs) (hu : Below w.heap.size w w') : Rd w' sz v n xs :=
  h.upd (F := fun _ => False) (.of_below hu) (fun _ _ _ _ _ h => h)

theorem Rd.at {w : World} {sz : Nat} {v : Value} {n : Nat} {xs : List Value} (h : Rd w sz v n xs) (hn : 0 < n) (hz : 0 < sz := by decide) :
    ∃ b off cap, v = .slice (some ⟨b, off, none⟩) n cap ∧ n ≤ cap ∧ cap ≤ maxLen ∧ b < w.heap.size ∧ ∀ j u, xs[j]? = some u → w.cell? ⟨b, off + j, none⟩ = some u := by
  rcases h.2 with ⟨_, h⟩ | ⟨a, cap, h1, h2, h3, h4⟩
  · omega
  · have hl : 0 < xs.length := by rw [h.1]; exact Nat.mul_pos hn hz
    have h0 := h4 0 xs[0] (by rw [List.getElem?_eq_getElem hl])
    have hs := cell_spot h0
    obtain ⟨b, off, sp⟩ := a
    have hs : sp = none := hs
    subst hs
    refine ⟨b, off, cap, h1, h2, h3, World.block_lt_of_cell? w _ h0, ?_⟩
    intro j u hj
    have := h4 j u hj
    rwa [Addr.add_lit] at this

theorem Rd.shape {w : World} {sz : Nat} {v : Value} {n : Nat} {xs : List Value} (h : Rd w sz v n xs) : ∃ a cap, v = .slice a n cap ∧ n ≤ cap := by
  rcases h.2 with ⟨h1, rfl⟩ | ⟨a, cap, h1, h2, _⟩
  · exact ⟨none, 0, h1, Nat.le_refl _⟩
  · exact ⟨_, cap, h1, h2⟩

theorem Rd.maxlen {w : World} {sz : Nat} {v : Value} {n : Nat} {xs : List Value} (h : Rd w sz v n xs) : n ≤ maxLen := by
  rcases h.2 with ⟨_, rfl⟩ | ⟨a, cap, h1, h2, h3, _⟩
  · exact Nat.zero_le _
  · exact Nat.le_trans h2 h3
end Go.Proofs.YtcpaaleogmiamaaGreatDoor
