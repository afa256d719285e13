/- Maps whose keys are texts. -/
/- A tape as plain data; what it is in memory. -/
import Derived.Test.YtcpaaleogmiamaaGreatDoorMp5
namespace Go.Proofs.YtcpaaleogmiamaaGreatDoor
open Go.RowKit

abbrev SMap := List (List UInt8 × Value)
/-- Block b of w is a map whose entries are the pairs m, in this order. -/
def MapSt (w : World) (b : Nat) (m : SMap) : Prop :=
  ∃ es clock, w.heap[b]? = some (.map es clock) ∧ es.toList.map (fun e => (e.key, e.val)) = m.map (fun p => (Value.string (bs p.1), p.2)) ∧ MapKept.Stamped es clock
def sget (m : SMap) (k : List UInt8) : Option Value := (m.find? (fun p => decide (p.1 = k))).map (·.2)
def sput : SMap → List UInt8 → Value → SMap
  | [], k, v => [(k, v)]
  | p :: m, k, v => if p.1 = k then (k, v) :: m else p :: sput m k v
def sdel (m : SMap) (k : List UInt8) : SMap := m.eraseP (fun p => decide (p.1 = k))

theorem same_strs (a b : List UInt8) : Instr.sameNow .string (.string (bs a)) (.string (bs b)) = some (decide (a = b)) := by
  obtain ⟨r, hr, hi⟩ := MapKept.sameNow_of_keys (d := .string) (a := .string (bs a)) (b := .string (bs b)) (by trivial) (by trivial)
  rw [hr]
  congr 1
  have hab : (Value.string (bs a) = Value.string (bs b)) ↔ a = b := ⟨fun h => by
    have h2 := Value.string.inj h
    have h3 := congrArg ByteArray.toList h2
    rwa [bs_toList, bs_toList] at h3, fun h => by rw [h]⟩
  rw [hab] at hi
  cases r with
  | true => simp [hi.1 rfl]
  | false =>
    have : ¬ a = b := fun h => by have := hi.2 h; cases this
    simp [this]

theorem findNow_strs (k : List UInt8) : ∀ (es : List MapEntry) (m : SMap) (i : Nat),
    es.map (fun e => (e.key, e.val)) = m.map (fun p => (Value.string (bs p.1), p.2)) →
    Instr.findNow .string (.string (bs k)) es i = some ((m.findIdx? (fun p => decide (p.1 = k))).map fun j => (i + j, ((m[j]?).map (·.2)).getD undef))
  | [], m, i, h => by
    cases m with
    | nil => simp [Instr.findNow]
    | cons a b => simp at h
  | e :: es, m, i, h => by
    cases m with
    | nil => simp at h
    | cons p m =>
      simp only [List.map_cons, List.cons.injEq, Prod.mk.injEq] at h
      obtain ⟨⟨h1, h2⟩, h3⟩ := h
      have ih := findNow_strs k es m (i + 1) h3
      simp only [Instr.findNow, h1, same_strs, List.findIdx?_cons]
      by_cases hk : p.1 = k
      · subst hk
        simp [h2]
      · have hk' : ¬ k = p.1 := fun e => hk e.symm
        simp only [hk, hk', decide_false, ih, Bool.false_eq_true, if_false, Option.map_map]
        congr 1
        cases m.findIdx? (fun p => decide (p.1 = k)) <;> simp <;> omega

theorem findIdx_sget (m : SMap) (k : List UInt8) : (m.findIdx? (fun p => decide (p.1 = k))).map (fun j => ((m[j]?).map (·.2)).getD undef) = sget m k := by
  induction m with
  | nil => rfl
  | cons p m ih =>
    by_cases hk : p.1 = k
    · simp [List.findIdx?_cons, sget, hk]
    · simp only [List.findIdx?_cons, hk, sget, List.find?_cons, decide_false, Bool.false_eq_true, if_false] at ih ⊢
      rw [← ih]
      cases m.findIdx? (fun p => decide (p.1 = k)) <;> simp

theorem check_str {P : Program} {K : TypeId} (hK : P.underlying K = some .string) (w : World) (e : Bool) (k : List UInt8) : (Instr.checkKey e 10000 K (.string (bs k))).run P w = .ok () w :=
  MapKept.run_checkKey hK (by trivial) e 9999

theorem run_lookup_strs {P : Program} {T K E : TypeId} {z : Value} (hT : P.underlying T = some (.map K E)) (hK : P.underlying K = some .string)
    (hz : (P.info? E).bind (·.zero) = some z) {w : World} {B : Nat} {m : SMap} (hm : MapSt w B m) (k : List UInt8) (ok : Bool) :
    (Instr.lookup T (.map (some B)) (.string (bs k)) ok).run P w = .ok (if ok then .tuple #[(sget m k).getD z, .bool (sget m k).isSome] else (sget m k).getD z) w := by
  obtain ⟨es, clock, hb, he, hstp⟩ := hm
  have hf := findNow_strs k es.toList m 0 he
  have hg := findIdx_sget m k
  have hff := MapKept.run_findKey (w := w) hK hf
  have hob := MapKept.run_getObj_map (P := P) hb
  unfold Instr.lookup
  simp only [Sem.run_bind, run_underlying hT, Result.andThen, Sem.run_pure, hob, check_str hK, hff]
  rw [← hg]
  cases m.findIdx? (fun p => decide (p.1 = k)) <;> cases ok <;> simp [run_zero hz, Result.andThen]

theorem sput_spec (k : List UInt8) (v : Value) : ∀ (m : SMap),
    (m.findIdx? (fun p => decide (p.1 = k)) = none → sput m k v = m ++ [(k, v)]) ∧
    (∀ j, m.findIdx? (fun p => decide (p.1 = k)) = some j → sput m k v = m.modify j (fun p => (p.1, v)))
  | [] => by simp [sput]
  | p :: m => by
    have ih := sput_spec k v m
    by_cases hk : p.1 = k
    · subst hk
      simp [List.findIdx?_cons, sput]
    · simp only [List.findIdx?_cons, hk, sput, decide_false, Bool.false_eq_true, if_false]
      constructor
      · intro h
        rw [ih.1 (by simpa using h)]; rfl
      · intro j hj
        cases hx : m.findIdx? (fun p => decide (p.1 = k)) with
        | none => rw [hx] at hj; cases hj
        | some j' =>
          rw [hx] at hj
          simp only [Option.map_some, Option.some.injEq] at hj
          subst hj
          rw [ih.2 j' hx]; simp

theorem run_mapUpdate_strs {P : Program} {T K E : TypeId} (hT : P.underlying T = some (.map K E)) (hK : P.underlying K = some .string)
    {w : World} {B : Nat} {m : SMap} (hm : MapSt w B m) (k : List UInt8) (v : Value) :
    ∃ w6, (Instr.mapUpdate T (.map (some B)) (.string (bs k)) v).run P w = .ok () w6 ∧ MapSt w6 B (sput m k v) ∧ Upd (fun k => k = B) w w6 := by
  obtain ⟨es, clock, hb, he, hstp⟩ := hm
  have hf := findNow_strs k es.toList m 0 he
  have hsp := sput_spec k v m
  have hff := MapKept.run_findKey (w := w) hK hf
  have hob := MapKept.run_getObj_map (P := P) hb
  have hupd : ∀ o, Upd (fun k => k = B) w { w with heap := w.heap.setIfInBounds B o } := fun o => ⟨rfl, rfl, rfl, by simp, fun k hk hne => by simp [Ne.symm hne]⟩
  cases hx : m.findIdx? (fun p => decide (p.1 = k)) with
  | none =>
    simp only [hx, Option.map_none] at hff
    have hnk : ∀ x ∈ es.toList, x.key ≠ .string (bs k) := by
      intro x hx1 e
      have h1 : (x.key, x.val) ∈ m.map (fun p => (Value.string (bs p.1), p.2)) := by rw [← he]; exact List.mem_map.2 ⟨x, hx1, rfl⟩
      obtain ⟨p, hp, hpe⟩ := List.mem_map.1 h1
      have h2 := List.findIdx?_eq_none_iff.1 hx p hp
      simp only [Prod.mk.injEq] at hpe
      rw [e] at hpe
      have h3 := congrArg ByteArray.toList (Value.string.inj hpe.1)
      rw [bs_toList, bs_toList] at h3
      simp [h3] at h2
    refine ⟨{ w with heap := w.heap.setIfInBounds B (.map (es.push { key := .string (bs k), val := v, born := clock }) (clock + 1)) }, ?_, ⟨_, _, (MapKept.heap_set hb).1, ?_, MapKept.stamped_push hstp hnk⟩, hupd _⟩
    · unfold Instr.mapUpdate
      simp only [Sem.run_bind, run_underlying hT, Result.andThen, hob, check_str hK, hff, MapKept.run_setObj_map _ hb]
    · rw [hsp.1 hx]; simp [he]
  | some j =>
    simp only [hx, Option.map_some, Nat.zero_add] at hff
    have hj : ∃ h : j < m.length, m[j].1 = k := by
      obtain ⟨h, h1, _⟩ := List.findIdx?_eq_some_iff_getElem.1 hx
      exact ⟨h, by simpa using h1⟩
    obtain ⟨hj1, hj2⟩ := hj
    have hlen : es.size = m.length := by have := congrArg List.length he; simpa using this
    have hk : es[j]?.map (·.key) = some (Value.string (bs k)) := by
      have := congrArg (fun l => l[j]?.map (·.1)) he
      simp only [List.getElem?_map, Option.map_map] at this
      rw [List.getElem?_eq_getElem hj1] at this
      simp only [Option.map_some, Function.comp_def, hj2] at this
      simpa [Function.comp_def] using this
    have hst : (Instr.keyThatStays (((es[j]?).map (·.key)).getD (.string (bs k))) (.string (bs k))).run P w = .ok (.string (bs k)) w := by
      rw [hk]
      exact MapKept.run_keyThatStays (d := .string) (by trivial)
    refine ⟨{ w with heap := w.heap.setIfInBounds B (.map (es.modify j fun e => { e with key := .string (bs k), val := v }) clock) }, ?_, ⟨_, _, (MapKept.heap_set hb).1, ?_, MapKept.stamped_modify hstp j _ (fun _ _ => rfl) (fun e _ he2 => by rw [he2] at hk; simpa using hk.symm)⟩, hupd _⟩
    · unfold Instr.mapUpdate
      simp only [Sem.run_bind, run_underlying hT, Result.andThen, hob, check_str hK, hff, hst, MapKept.run_setObj_map _ hb]
    · rw [hsp.2 j hx]
      apply List.ext_getElem?
      intro n
      have hn := congrArg (fun l => l[n]?) he
      simp only [List.getElem?_map] at hn
      simp only [Array.toList_modify, List.getElem?_map, List.getElem?_modify]
      by_cases e : j = n
      · subst e
        rw [List.getElem?_eq_getElem hj1] at hn ⊢
        simp only [if_true]
        cases h2 : es.toList[j]? with
        | none => rw [h2] at hn; simp at hn
        | some x => simp [hj2]
      · simp only [if_neg e]
        simpa using hn

theorem map_erase {α β : Type} (f : α → β) : ∀ (l : List α) (j : Nat), (l.eraseIdx j).map f = (l.map f).eraseIdx j
  | [], j => by simp
  | a :: l, 0 => by simp
  | a :: l, j + 1 => by simp [map_erase f l j]

theorem erase_spec (k : List UInt8) : ∀ (m : SMap), (m.findIdx? (fun p => decide (p.1 = k)) = none → sdel m k = m) ∧ (∀ j, m.findIdx? (fun p => decide (p.1 = k)) = some j → sdel m k = m.eraseIdx j)
  | [] => by simp [sdel]
  | p :: m => by
    have ih := erase_spec k m
    by_cases hk : p.1 = k
    · simp [List.findIdx?_cons, sdel, hk]
    · simp only [sdel, List.findIdx?_cons, hk, decide_false, Bool.false_eq_true, if_false, List.eraseP_cons] at ih ⊢
      constructor
      · intro h
        rw [ih.1 (by simpa using h)]; rfl
      · intro j hj
        cases hx : m.findIdx? (fun p => decide (p.1 = k)) with
        | none => rw [hx] at hj; cases hj
        | some j' =>
          rw [hx] at hj
          simp only [Option.map_some, Option.some.injEq] at hj
          subst hj
          rw [ih.2 j' hx]; rfl

theorem run_delete_strs {P : Program} {T K E : TypeId} (hT : P.underlying T = some (.map K E)) (hK : P.underlying K = some .string)
    {w : World} {B : Nat} {m : SMap} (hm : MapSt w B m) (k : List UInt8) (ty : TypeId) :
    ∃ w6, (Builtin.delete_ #[T, K] ty #[.map (some B), .string (bs k)]).run P w = .ok (.tuple #[]) w6 ∧ MapSt w6 B (sdel m k) ∧ Upd (fun k => k = B) w w6 := by
  obtain ⟨es, clock, hb, he, hstp⟩ := hm
  have hf := findNow_strs k es.toList m 0 he
  have hff := MapKept.run_findKey (w := w) hK hf
  have hob := MapKept.run_getObj_map (P := P) hb
  have hupd : ∀ o, Upd (fun k => k = B) w { w with heap := w.heap.setIfInBounds B o } := fun o => ⟨rfl, rfl, rfl, by simp, fun k hk hne => by simp [Ne.symm hne]⟩
  have hsp := erase_spec k m
  cases hx : m.findIdx? (fun p => decide (p.1 = k)) with
  | none =>
    simp only [hx, Option.map_none] at hff
    refine ⟨{ w with heap := w.heap.setIfInBounds B (.map es clock) }, ?_, ⟨_, _, (MapKept.heap_set hb).1, ?_, hstp⟩, hupd _⟩
    · simp [Builtin.delete_, run_underlying hT, hob, check_str hK, hff, MapKept.run_setObj_map _ hb, Result.andThen]
    · rw [hsp.1 hx]; exact he
  | some j =>
    simp only [hx, Option.map_some, Nat.zero_add] at hff
    refine ⟨{ w with heap := w.heap.setIfInBounds B (.map (es.eraseIdxIfInBounds j) clock) }, ?_, ⟨_, _, (MapKept.heap_set hb).1, ?_, MapKept.stamped_erase hstp _⟩, hupd _⟩
    · simp [Builtin.delete_, run_underlying hT, hob, check_str hK, hff, MapKept.run_setObj_map _ hb, Result.andThen]
    · rw [hsp.2 j hx]
      have hjl : j < es.size := by
        obtain ⟨h, -, -⟩ := List.findIdx?_eq_some_iff_getElem.1 hx
        have := congrArg List.length he
        simp at this
        omega
      simp only [Array.eraseIdxIfInBounds, dif_pos hjl, Array.toList_eraseIdx, map_erase, he]

theorem run_len_strs {P : Program} {T K E : TypeId} (hT : P.underlying T = some (.map K E)) {w : World} {B : Nat} {m : SMap} (hm : MapSt w B m) (ty : TypeId) :
    (Builtin.len_ #[T] ty #[.map (some B)]).run P w = .ok (.int .i64 m.length) w := by
  obtain ⟨es, clock, hb, he, -⟩ := hm
  have : es.size = m.length := by have := congrArg List.length he; simpa using this
  simp [Builtin.len_, run_underlying hT, MapKept.run_getObj_map hb, goInt, Result.andThen, this]

theorem MapSt.upd {w w' : World} {F : Nat → Prop} {B : Nat} {m : SMap} (h : MapSt w B m) (hu : Upd F w w') (hB : ¬ F B) : MapSt w' B m := by
  obtain ⟨es, cl, h1, h2⟩ := h
  exact ⟨es, cl, (hu.block B (Array.getElem?_eq_some_iff.1 h1).1 hB).trans h1, h2⟩
theorem MapSt.same {w w' : World} {B : Nat} {m : SMap} (h : MapSt w B m) (hb : w'.heap[B]? = w.heap[B]?) : MapSt w' B m := by
  obtain ⟨es, cl, h1, h2⟩ := h
  exact ⟨es, cl, hb.trans h1, h2⟩
theorem MapSt.lt {w : World} {B : Nat} {m : SMap} (h : MapSt w B m) : B < w.heap.size := by
  obtain ⟨es, cl, h1, h2⟩ := h
  exact (Array.getElem?_eq_some_iff.1 h1).1
theorem MapSt.made {w : World} {B : Nat} (h : w.heap[B]? = some (.map #[] 0)) : MapSt w B [] := ⟨#[], 0, h, rfl, MapKept.stamped_empty 0⟩
theorem MapSt.keys {w : World} {B : Nat} {m : SMap} (h : MapSt w B m) : (m.map (·.1)).Nodup := by
  obtain ⟨es, cl, h1, h2, h3⟩ := h
  have h4 := ((MapKept.stamped_iff es cl).1 h3).2.2
  have h5 : (es.toList.map (·.key)).Nodup := List.pairwise_map.2 h4
  have h6 : es.toList.map (·.key) = (m.map (·.1)).map (fun k => Value.string (bs k)) := by
    have := congrArg (fun l => l.map (·.1)) h2
    simpa [List.map_map, Function.comp_def] using this
  rw [h6] at h5
  exact (List.pairwise_map.1 h5).imp (fun hne e => hne (by rw [e]))
end Go.Proofs.YtcpaaleogmiamaaGreatDoor
namespace Go.Proofs.YtcpaaleogmiamaaGreatDoor
open Go.RowKit

/-- A file: its bytes, how many of them are safe. -/
structure Fl where
  data : List UInt8
  safe : Nat
  deriving DecidableEq
/-- A tape: its files in the order of their coming. -/
structure Tp where
  files : List (List UInt8 × Fl)
  room : Int
  down : Bool
  acts : Int
  armed : Nat
  life : Int

def dataSum (l : List (List UInt8 × Fl)) : Nat := (l.map (fun x => x.2.data.length)).sum
/-- What a tape is, whatever is asked of it. -/
structure TpOk (t : Tp) : Prop where
  room : 0 ≤ t.room ∧ t.room ≤ 4194304
  sum : (dataSum t.files : Int) ≤ t.room
  few : t.files.length ≤ 256
  safe : ∀ x ∈ t.files, x.2.safe ≤ x.2.data.length
  armed : t.armed ≤ 9223372036854775807

def flCells (f : Fl) : Array Value := #[.string (bs f.data), .int .i64 (f.safe : Int)]
def flPtr (k : Nat) : Value := .pointer (some ⟨k, 0, none⟩)
/-- Files with their blocks. -/
abbrev TpL := List (List UInt8 × Nat × Fl)
abbrev tpFiles (L : TpL) : List (List UInt8 × Fl) := L.map (fun x => (x.1, x.2.2))
abbrev tpMap (L : TpL) : SMap := L.map (fun x => (x.1, flPtr x.2.1))
abbrev tpBlocks (L : TpL) : List Nat := L.map (·.2.1)

/-- A tape in memory. -/
structure TpAt (w : World) (b mb : Nat) (L : TpL) (t : Tp) : Prop where
  blk : w.heap[b]? = some (.cells #[.map (some mb), .int .i64 t.room, .bool t.down, .int .i64 t.acts, .int .i64 (t.armed : Int), .int .i64 t.life] 129 (0, 0))
  map : MapSt w mb (tpMap L)
  fls : ∀ x ∈ L, w.heap[x.2.1]? = some (.cells (flCells x.2.2) 150 (0, 0))
  apart : (tpBlocks L).Nodup
  eq : t.files = tpFiles L
  ok : TpOk t

/-- The tape's own blocks. -/
def TpF (b mb : Nat) (L : TpL) (k : Nat) : Prop := k = b ∨ k = mb ∨ k ∈ tpBlocks L

theorem TpAt.upd {w w' : World} {F : Nat → Prop} {b mb : Nat} {L : TpL} {t : Tp} (h : TpAt w b mb L t) (hu : Upd F w w') (hF : ∀ k, TpF b mb L k → ¬ F k) : TpAt w' b mb L t :=
  ⟨(hu.block b (Array.getElem?_eq_some_iff.1 h.blk).1 (hF b (.inl rfl))).trans h.blk, h.map.upd hu (hF mb (.inr (.inl rfl))),
    fun x hx => (hu.block _ (Array.getElem?_eq_some_iff.1 (h.fls x hx)).1 (hF _ (.inr (.inr (List.mem_map.2 ⟨x, hx, rfl⟩))))).trans (h.fls x hx), h.apart, h.eq, h.ok⟩
theorem TpAt.below {w w' : World} {b mb : Nat} {L : TpL} {t : Tp} (h : TpAt w b mb L t) (hb : Below w.heap.size w w') : TpAt w' b mb L t := h.upd (F := fun _ => False) (.of_below hb) (fun _ _ h => h)

theorem TpAt.blkLt {w : World} {b mb : Nat} {L : TpL} {t : Tp} (h : TpAt w b mb L t) : b < w.heap.size := (Array.getElem?_eq_some_iff.1 h.blk).1
theorem TpAt.fLt {w : World} {b mb : Nat} {L : TpL} {t : Tp} (h : TpAt w b mb L t) : ∀ k, TpF b mb L k → k < w.heap.size := by
  rintro k (rfl | rfl | hk)
  · exact h.blkLt
  · exact h.map.lt
  · obtain ⟨x, hx, rfl⟩ := List.mem_map.1 hk
    exact (Array.getElem?_eq_some_iff.1 (h.fls x hx)).1
/-- What kinds of blocks they are. -/
theorem TpAt.kinds {w : World} {b mb : Nat} {L : TpL} {t : Tp} (h : TpAt w b mb L t) : ∀ k, TpF b mb L k → (∃ cs, w.heap[k]? = some (.cells cs 129 (0, 0))) ∨ (∃ es cl, w.heap[k]? = some (.map es cl)) ∨ ∃ cs, w.heap[k]? = some (.cells cs 150 (0, 0)) := by
  rintro k (rfl | rfl | hk)
  · exact .inl ⟨_, h.blk⟩
  · obtain ⟨es, cl, h1, -⟩ := h.map
    exact .inr (.inl ⟨es, cl, h1⟩)
  · obtain ⟨x, hx, rfl⟩ := List.mem_map.1 hk
    exact .inr (.inr ⟨_, h.fls x hx⟩)
theorem TpAt.ne_map {w : World} {b mb : Nat} {L : TpL} {t : Tp} (h : TpAt w b mb L t) : b ≠ mb ∧ mb ∉ tpBlocks L ∧ b ∉ tpBlocks L := by
  obtain ⟨es, cl, h1, -⟩ := h.map
  refine ⟨fun e => ?_, fun hk => ?_, fun hk => ?_⟩
  · rw [← e, h.blk] at h1; simp at h1
  · obtain ⟨x, hx, e⟩ := List.mem_map.1 hk
    have h2 := h.fls x hx
    rw [e, h1] at h2; simp at h2
  · obtain ⟨x, hx, e⟩ := List.mem_map.1 hk
    have h2 := h.fls x hx
    rw [e, h.blk] at h2; simp at h2

/-- A word of the tape is written. -/
theorem TpAt.put {w : World} {b mb : Nat} {L : TpL} {t t' : Tp} (h : TpAt w b mb L t) (j : Nat) (u : Value) (hf : t'.files = t.files) (hok : TpOk t')
    (he : (#[.map (some mb), .int .i64 t.room, .bool t.down, .int .i64 t.acts, .int .i64 (t.armed : Int), .int .i64 t.life] : Array Value).setIfInBounds j u = #[.map (some mb), .int .i64 t'.room, .bool t'.down, .int .i64 t'.acts, .int .i64 (t'.armed : Int), .int .i64 t'.life]) :
    TpAt (w.setCell ⟨b, j, none⟩ u) b mb L t' := by
  have hu := upd_set1 w b j u
  obtain ⟨n1, n2, n3⟩ := h.ne_map
  refine ⟨?_, h.map.upd hu (fun e => n1 e.symm), fun x hx => (hu.block _ (Array.getElem?_eq_some_iff.1 (h.fls x hx)).1 (fun e => n3 (List.mem_map.2 ⟨x, hx, e⟩))).trans (h.fls x hx), h.apart, by rw [hf]; exact h.eq, hok⟩
  rw [← he]
  exact setCell_same h.blk

theorem TpAt.cells {w : World} {b mb : Nat} {L : TpL} {t : Tp} (h : TpAt w b mb L t) :
    w.cell? ⟨b, 0, none⟩ = some (.map (some mb)) ∧ w.cell? ⟨b, 1, none⟩ = some (.int .i64 t.room) ∧ w.cell? ⟨b, 2, none⟩ = some (.bool t.down) ∧ w.cell? ⟨b, 3, none⟩ = some (.int .i64 t.acts) ∧
      w.cell? ⟨b, 4, none⟩ = some (.int .i64 (t.armed : Int)) ∧ w.cell? ⟨b, 5, none⟩ = some (.int .i64 t.life) ∧ ∀ j, w.frozen? ⟨b, j, none⟩ = false :=
  ⟨cells_of h.blk 0 _ rfl, cells_of h.blk 1 _ rfl, cells_of h.blk 2 _ rfl, cells_of h.blk 3 _ rfl, cells_of h.blk 4 _ rfl, cells_of h.blk 5 _ rfl, fun _ => frozen_of h.blk⟩

theorem und_mapFile : Tryz.prog.underlying 127 = some (.map 9 148) := by kernel_rfl
theorem und_str : Tryz.prog.underlying 9 = some .string := by kernel_rfl
theorem zero_pFile : (Tryz.prog.info? 148).bind (·.zero) = some (.pointer none) := by kernel_rfl

/-- A file by its name. -/
def flGet (L : TpL) (n : List UInt8) : Option (List UInt8 × Nat × Fl) := L.find? (fun x => decide (x.1 = n))
theorem sget_tp (L : TpL) (n : List UInt8) : sget (tpMap L) n = (flGet L n).map (fun x => flPtr x.2.1) := by
  unfold sget flGet tpMap
  rw [List.find?_map, Option.map_map]
  rfl
theorem flGet_mem {L : TpL} {n : List UInt8} {x : List UInt8 × Nat × Fl} (h : flGet L n = some x) : x ∈ L ∧ x.1 = n := by
  refine ⟨List.mem_of_find?_eq_some h, ?_⟩
  have := List.find?_some h
  simpa using this

/-- What a file's look-up answers. -/
def ptrOf (o : Option (List UInt8 × Nat × Fl)) : Value := match o with | some x => flPtr x.2.1 | none => .pointer none
theorem TpAt.lookup {w : World} {b mb : Nat} {L : TpL} {t : Tp} (h : TpAt w b mb L t) (n : List UInt8) : (Instr.lookup 127 (.map (some mb)) (.string (bs n)) false).run Tryz.prog w = .ok (ptrOf (flGet L n)) w := by
  have := run_lookup_strs und_mapFile und_str zero_pFile h.map n false
  rw [sget_tp] at this
  simp only [Bool.false_eq_true, if_false] at this
  rw [this]
  cases flGet L n <;> rfl
end Go.Proofs.YtcpaaleogmiamaaGreatDoor
