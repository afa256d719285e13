/- What ledgers hold, as plain data, and how it lies in memory. -/
import Derived.Test.YtcpaaleogmiamaaGreatDoorBase
namespace Go.Proofs.YtcpaaleogmiamaaGreatDoor
open Go.RowKit

def isNumB (n : Int) : Bool := decide (0 ≤ n) && decide (n ≤ 1099511627776)

structure Slot where
  seq : Int
  base : Int
  fin : Int
  deriving DecidableEq

def Slot.zero : Slot := ⟨0, 0, 0⟩
def Slot.cells (x : Slot) : List Value := [.int .i64 x.seq, .int .i64 x.base, .int .i64 x.fin]
def Slot.v (x : Slot) : Value := .agg #[.int .i64 x.seq, .int .i64 x.base, .int .i64 x.fin]
def rowCells (l : List Slot) : List Value := l.flatMap Slot.cells

theorem rowCells_length (l : List Slot) : (rowCells l).length = l.length * 3 := by
  induction l with
  | nil => rfl
  | cons x l ih => simp only [rowCells, List.flatMap_cons, List.length_append, List.length_cons] at ih ⊢; rw [ih]; simp [Slot.cells]; omega

theorem rowCells_get (l : List Slot) (i : Nat) (h : i < l.length) :
    (rowCells l)[i * 3]? = some (.int .i64 l[i].seq) ∧ (rowCells l)[i * 3 + 1]? = some (.int .i64 l[i].base) ∧ (rowCells l)[i * 3 + 2]? = some (.int .i64 l[i].fin) := by
  induction l generalizing i with
  | nil => simp at h
  | cons x l ih =>
    have e : rowCells (x :: l) = .int .i64 x.seq :: .int .i64 x.base :: .int .i64 x.fin :: rowCells l := rfl
    rw [e]
    cases i with
    | zero => simp
    | succ i =>
      have := ih i (by simpa using h)
      have e1 : (i + 1) * 3 = i * 3 + 3 := by omega
      simpa [e1] using this

def RowGood (l : List Slot) : Prop := ∀ i (h : i < l.length), isNumB l[i].seq = true ∧ isNumB l[i].base = true ∧ isNumB l[i].fin = true ∧ l[i].base < l[i].fin ∧
  ∀ (h' : i + 1 < l.length), l[i + 1].seq = l[i].seq + 1 ∧ l[i].fin ≤ l[i + 1].base

/-- A row that a ledger may keep of a producer: one to five slots, their numbers one behind the other. -/
def RowOk (l : List Slot) : Prop := l ≠ [] ∧ l.length ≤ 5 ∧ RowGood l

theorem RowGood.snoc {l : List Slot} {x : Slot} (h : RowGood l) (hx1 : isNumB x.seq = true) (hx2 : isNumB x.base = true) (hx3 : isNumB x.fin = true) (hx4 : x.base < x.fin)
    (hn : ∀ (h : 0 < l.length), x.seq = (l[l.length - 1]'(by omega)).seq + 1 ∧ (l[l.length - 1]'(by omega)).fin ≤ x.base) : RowGood (l ++ [x]) := by
  intro i hi
  have hl : (l ++ [x]).length = l.length + 1 := by simp
  by_cases h1 : i < l.length
  · have e : (l ++ [x])[i] = l[i] := List.getElem_append_left h1
    obtain ⟨a1, a2, a3, a4, a5⟩ := h i h1
    refine ⟨by rw [e]; exact a1, by rw [e]; exact a2, by rw [e]; exact a3, by rw [e]; exact a4, ?_⟩
    intro h'
    by_cases h2 : i + 1 < l.length
    · have e' : (l ++ [x])[i + 1] = l[i + 1] := List.getElem_append_left h2
      rw [e, e']; exact a5 h2
    · have e' : (l ++ [x])[i + 1] = x := by rw [List.getElem_append_right (by omega)]; simp
      have hi' : i = l.length - 1 := by omega
      subst hi'
      rw [e, e']; exact hn (by omega)
  · have hi' : i = l.length := by omega
    subst hi'
    have e : (l ++ [x])[l.length] = x := by rw [List.getElem_append_right (Nat.le_refl _)]; simp
    exact ⟨by rw [e]; exact hx1, by rw [e]; exact hx2, by rw [e]; exact hx3, by rw [e]; exact hx4, fun h' => by omega⟩

theorem RowGood.drop {l : List Slot} (h : RowGood l) (k : Nat) : RowGood (l.drop k) := by
  intro i hi
  have hl : (l.drop k).length = l.length - k := by simp
  have e : (l.drop k)[i] = l[k + i] := by simp
  obtain ⟨a1, a2, a3, a4, a5⟩ := h (k + i) (by omega)
  refine ⟨by rw [e]; exact a1, by rw [e]; exact a2, by rw [e]; exact a3, by rw [e]; exact a4, ?_⟩
  intro h'
  have e' : (l.drop k)[i + 1] = l[k + i + 1] := by simp [Nat.add_assoc]
  rw [e, e']
  exact a5 (by omega)

/-- v is a slice that reads l: its cells lie in a block of slots. -/
def SlotsAt (w : World) (v : Value) (l : List Slot) : Prop := Sl w 359 3 v l.length (rowCells l)

/-- The map's entries and the rows, one by one. -/
def MRel (w : World) : List (Int × Value) → List (Int × List Slot) → Prop
  | [], [] => True
  | p :: m, q :: L => p.1 = q.1 ∧ SlotsAt w p.2 q.2 ∧ MRel w m L
  | _, _ => False

/-- The ledger behind the pointer v: L, in the order in which its producers came; its map is block B. -/
structure LedAt (w : World) (v : Value) (B : Nat) (L : List (Int × List Slot)) : Prop where
  ptr : ∃ bp m, v = .pointer (some ⟨bp, 0, none⟩) ∧ bp ≠ B ∧ w.cell? ⟨bp, 0, none⟩ = some (.map (some B)) ∧ MapIs w B m ∧ MRel w m L
  ok : ∀ x ∈ L, RowOk x.2 ∧ isNumB x.1 = true
  nodup : (L.map (·.1)).Nodup

def rowOf (L : List (Int × List Slot)) (p : Int) : List Slot := ((L.find? (fun x => x.1 == p)).map (·.2)).getD []

/-- What Check answers. -/
def checkS (row : List Slot) (p s : Int) : Slot × Int :=
  if isNumB p && isNumB s then
    match row with
    | [] => (Slot.zero, if s = 0 then 0 else 20)
    | x :: l =>
      if s < x.seq then (Slot.zero, 21)
      else if s < x.seq + (l.length + 1) then ((x :: l).getD (s - x.seq).toNat Slot.zero, 13)
      else (Slot.zero, if s = x.seq + (l.length + 1) then 0 else 20)
  else (Slot.zero, 1)

/-! batches -/
structure Rec where
  off : Int
  key : ByteArray
  val : ByteArray
  gone : Bool

def Rec.cells (x : Rec) : List Value := [.int .i64 x.off, .string x.key, .string x.val, .bool x.gone]
def Rec.v (x : Rec) : Value := .agg #[.int .i64 x.off, .string x.key, .string x.val, .bool x.gone]
def recCells (l : List Rec) : List Value := l.flatMap Rec.cells

structure Batch where
  base : Int
  count : Int
  prod : Int
  seq : Int
  time : Int
  recs : List Rec

def Batch.v (b : Batch) (rv : Value) : Value := .agg #[.int .i64 b.base, .int .i64 b.count, .int .i64 b.prod, .int .i64 b.seq, .int .i64 b.time, rv]

def recOkB (x : Rec) : Bool := decide ((x.key.size : Int) ≤ 16) && (decide ((x.val.size : Int) ≤ 64) && (!x.gone || x.val.toList.isEmpty))
def goodRecs (lim : Int) : Int → List Rec → Bool
  | _, [] => true
  | next, x :: l => recOkB x && (decide (next ≤ x.off) && (decide (x.off < lim) && goodRecs lim (x.off + 1) l))
def goodB (b : Batch) : Bool :=
  isNumB b.base && (isNumB b.prod && (isNumB b.seq && (isNumB b.time && (decide (1 ≤ b.count) && (decide (b.count ≤ 8) && (decide (b.base ≤ 1099511627776 - b.count) && (decide ((b.recs.length : Int) ≤ b.count) && goodRecs (b.base + b.count) b.base b.recs)))))))

theorem recCells_get (l : List Rec) (i : Nat) (h : i < l.length) :
    (recCells l)[i * 4]? = some (.int .i64 l[i].off) ∧ (recCells l)[i * 4 + 1]? = some (.string l[i].key) ∧ (recCells l)[i * 4 + 2]? = some (.string l[i].val) ∧ (recCells l)[i * 4 + 3]? = some (.bool l[i].gone) := by
  induction l generalizing i with
  | nil => simp at h
  | cons x l ih =>
    have e : recCells (x :: l) = .int .i64 x.off :: .string x.key :: .string x.val :: .bool x.gone :: recCells l := rfl
    rw [e]
    cases i with
    | zero => simp
    | succ i =>
      have := ih i (by simpa using h)
      have e1 : (i + 1) * 4 = i * 4 + 4 := by omega
      simpa [e1] using this

/-! what Add does -/
def putL : List (Int × List Slot) → Int → List Slot → List (Int × List Slot)
  | [], k, v => [(k, v)]
  | p :: m, k, v => if p.1 == k then (k, v) :: m else p :: putL m k v

def lastFin (l : List Slot) : Int := (l.getLast?.map Slot.fin).getD 0
def last5 (l : List Slot) : List Slot := l.drop (l.length - 5)

def addS (L : List (Int × List Slot)) (b : Batch) : List (Int × List Slot) × Int :=
  if goodB b then
    if (checkS (rowOf L b.prod) b.prod b.seq).2 = 0 then
      if rowOf L b.prod ≠ [] ∧ b.base < lastFin (rowOf L b.prod) then (L, 20)
      else if rowOf L b.prod = [] ∧ 64 ≤ L.length then (L, 1)
      else (putL L b.prod (last5 (rowOf L b.prod ++ [⟨b.seq, b.base, b.base + b.count⟩])), 0)
    else (L, (checkS (rowOf L b.prod) b.prod b.seq).2)
  else (L, 1)

theorem Sl.kept' {w w' : World} {F : Nat → Prop} {E sz : Nat} {v : Value} {n : Nat} {xs : List Value} (h : Sl w E sz v n xs) (hu : Upd F w w')
    (hF : ∀ k cur T fz, w.heap[k]? = some (.cells cur T fz) → ¬ F k) : Sl w' E sz v n xs :=
  h.kept hu (fun k hk cur T fz e => hF k cur T fz e hk)

theorem Sl.keptT {w w' : World} {F : Nat → Prop} {E sz : Nat} {v : Value} {n : Nat} {xs : List Value} (h : Sl w E sz v n xs) (hu : Upd F w w')
    (hF : ∀ k cur fz, w.heap[k]? = some (.cells cur E fz) → ¬ F k) : Sl w' E sz v n xs := by
  refine ⟨h.1, ?_⟩
  rcases h.2 with h | ⟨b, off, cap, cur, fz, h1, h2, h3, h4, h5⟩
  · exact .inl h
  · refine .inr ⟨b, off, cap, cur, fz, h1, h2, h3, ?_, h5⟩
    rw [hu.block b (Array.getElem?_eq_some_iff.1 h4).1 (hF b _ _ h4)]
    exact h4

theorem MRel.keptT {w w' : World} {F : Nat → Prop} (hu : Upd F w w') (hF : ∀ k cur fz, w.heap[k]? = some (.cells cur 359 fz) → ¬ F k) :
    ∀ {m : List (Int × Value)} {L : List (Int × List Slot)}, MRel w m L → MRel w' m L
  | [], [], _ => trivial
  | _ :: _, _ :: _, h => ⟨h.1, h.2.1.keptT hu hF, MRel.keptT hu hF h.2.2⟩
  | [], _ :: _, h => h.elim
  | _ :: _, [], h => h.elim

theorem MRel.kept {w w' : World} {F : Nat → Prop} (hu : Upd F w w') (hF : ∀ k cur T fz, w.heap[k]? = some (.cells cur T fz) → ¬ F k)
    {m : List (Int × Value)} {L : List (Int × List Slot)} (h : MRel w m L) : MRel w' m L := h.keptT hu (fun k cur fz => hF k cur _ fz)

theorem MRel.snoc {w : World} {x : Int × Value} {y : Int × List Slot} (hk : x.1 = y.1) (hs : SlotsAt w x.2 y.2) :
    ∀ {m : List (Int × Value)} {L : List (Int × List Slot)}, MRel w m L → MRel w (m ++ [x]) (L ++ [y])
  | [], [], _ => ⟨hk, hs, trivial⟩
  | _ :: _, _ :: _, h => ⟨h.1, h.2.1, MRel.snoc hk hs h.2.2⟩
  | [], _ :: _, h => h.elim
  | _ :: _, [], h => h.elim

/-! tables -/
def seenCells (m : List (Int × Value)) : List Value := m.flatMap fun p => [.int .i64 p.1, p.2]
/-- v is a slice that reads the table T. -/
def SeensAt (w : World) (v : Value) (T : List (Int × List Slot)) : Prop := ∃ m, Sl w 357 2 v m.length (seenCells m) ∧ MRel w m T

theorem seenCells_length (m : List (Int × Value)) : (seenCells m).length = m.length * 2 := by
  induction m with
  | nil => rfl
  | cons x m ih => simp only [seenCells, List.flatMap_cons, List.length_append, List.length_cons, List.length_nil] at ih ⊢; omega
theorem seenCells_get (m : List (Int × Value)) (i : Nat) (h : i < m.length) : (seenCells m)[i * 2]? = some (.int .i64 m[i].1) ∧ (seenCells m)[i * 2 + 1]? = some m[i].2 := by
  induction m generalizing i with
  | nil => simp at h
  | cons x m ih =>
    have e : seenCells (x :: m) = .int .i64 x.1 :: x.2 :: seenCells m := rfl
    rw [e]
    cases i with
    | zero => simp
    | succ i =>
      have := ih i (by simpa using h)
      have e1 : (i + 1) * 2 = i * 2 + 2 := by omega
      simpa [e1] using this

/-- What Table hands back: the rows by rising producers. -/
def sortedKeys (L : List (Int × List Slot)) : List Int := (L.map (·.1)).mergeSort (fun x y => decide (x ≤ y))
def tableS (L : List (Int × List Slot)) : List (Int × List Slot) := (sortedKeys L).map fun p => (p, rowOf L p)

theorem LedAt.kept {w w' : World} {v : Value} {B : Nat} {L : List (Int × List Slot)} {F : Nat → Prop} (h : LedAt w v B L) (hu : Upd F w w') (hB : ¬ F B)
    (hF : ∀ k cur T fz, w.heap[k]? = some (.cells cur T fz) → ¬ F k) : LedAt w' v B L := by
  obtain ⟨⟨bp, m, rfl, hne, hc, hm, hr⟩, hok, hap⟩ := h
  refine ⟨⟨bp, m, rfl, hne, ?_, ?_, hr.kept hu hF⟩, hok, hap⟩
  · unfold World.cell? at hc ⊢
    cases hb : w.heap[bp]? with
    | none => simp [hb] at hc
    | some o =>
      have hlt := (Array.getElem?_eq_some_iff.1 hb).1
      cases o with
      | cells cur T fz => simp only [hu.block bp hlt (hF bp _ _ _ hb)]; exact hc
      | _ => simp [hb] at hc
  · obtain ⟨es, cl, hb, he⟩ := hm
    exact ⟨es, cl, (hu.block B (Array.getElem?_eq_some_iff.1 hb).1 hB).trans hb, he⟩

theorem LedAt.below {w w' : World} {v : Value} {B : Nat} {L : List (Int × List Slot)} (h : LedAt w v B L) (hu : Below w.heap.size w w') : LedAt w' v B L :=
  h.kept (F := fun _ => False) (.of_below hu) (fun h => h) (fun _ _ _ _ _ h => h)

theorem putL_keys : ∀ (L : List (Int × List Slot)) (k : Int) (l : List Slot),
    (k ∈ L.map (·.1) → (putL L k l).map (·.1) = L.map (·.1)) ∧ (k ∉ L.map (·.1) → (putL L k l).map (·.1) = L.map (·.1) ++ [k])
  | [], k, l => by simp [putL]
  | p :: L, k, l => by
    have ih := putL_keys L k l
    by_cases e : p.1 = k
    · subst e; simp [putL]
    · have e2 : (p.1 == k) = false := by simpa using e
      have e3 : k ≠ p.1 := fun h => e h.symm
      simp only [putL, e2, Bool.false_eq_true, if_false, List.map_cons, List.mem_cons, e3, false_or, List.cons_append, List.cons.injEq, true_and]
      exact ih

theorem putL_nodup {L : List (Int × List Slot)} (h : (L.map (·.1)).Nodup) (k : Int) (l : List Slot) : ((putL L k l).map (·.1)).Nodup := by
  by_cases hk : k ∈ L.map (·.1)
  · rw [(putL_keys L k l).1 hk]; exact h
  · rw [(putL_keys L k l).2 hk]
    rw [List.nodup_append]
    refine ⟨h, by simp, ?_⟩
    intro a ha b hb e
    simp only [List.mem_singleton] at hb
    subst hb; subst e; exact hk ha

theorem putL_mem {L : List (Int × List Slot)} {k : Int} {l : List Slot} {x : Int × List Slot} (h : x ∈ putL L k l) : x = (k, l) ∨ x ∈ L := by
  induction L with
  | nil => simp [putL] at h; exact .inl h
  | cons p L ih =>
    unfold putL at h
    split at h
    · rcases List.mem_cons.1 h with h | h
      · exact .inl h
      · exact .inr (List.mem_cons_of_mem _ h)
    · rcases List.mem_cons.1 h with h | h
      · exact .inr (by simp [h])
      · exact (ih h).imp id (List.mem_cons_of_mem _)

theorem MRel.put {w : World} {V : Value} {l : List Slot} (k : Int) (hV : SlotsAt w V l) : ∀ {m : List (Int × Value)} {L : List (Int × List Slot)}, MRel w m L → MRel w (mput m k V) (putL L k l)
  | [], [], _ => ⟨rfl, hV, trivial⟩
  | p :: m, q :: L, h => by
    have e := h.1
    by_cases hk : p.1 = k
    · have h1 : (p.1 == k) = true := by simpa using hk
      have h2 : (q.1 == k) = true := by rw [← e]; exact h1
      simp only [mput, putL, h1, h2, if_true]
      exact ⟨rfl, hV, h.2.2⟩
    · have h1 : (p.1 == k) = false := by simpa using hk
      have h2 : (q.1 == k) = false := by rw [← e]; exact h1
      simp only [mput, putL, h1, h2, Bool.false_eq_true, if_false]
      exact ⟨e, h.2.1, h.2.2.put k hV⟩
  | [], _ :: _, h => h.elim
  | _ :: _, [], h => h.elim

theorem MapIs.unique {w : World} {B : Nat} {m m' : List (Int × Value)} (h : MapIs w B m) (h' : MapIs w B m') : m = m' := by
  obtain ⟨es, cl, h1, h2, -⟩ := h
  obtain ⟨es', cl', h1', h2', -⟩ := h'
  rw [h1] at h1'
  cases h1'
  rw [h2] at h2'
  clear h1 h2
  induction m generalizing m' with
  | nil => cases m' with
    | nil => rfl
    | cons => simp at h2'
  | cons p m ih => cases m' with
    | nil => simp at h2'
    | cons q m' =>
      simp only [List.map_cons, List.cons.injEq, Prod.mk.injEq, Value.int.injEq, true_and] at h2'
      rw [ih h2'.2]
      congr 1
      exact Prod.ext h2'.1.1 h2'.1.2

/-- The map has been written: the ledger that it then is. -/
theorem LedAt.put {w w6 : World} {v : Value} {B : Nat} {L : List (Int × List Slot)} (h : LedAt w v B L) {m5 : List (Int × Value)} {k : Int} {V : Value} {l : List Slot} (hm : MapIs w B m5)
    (hm6 : MapIs w6 B (mput m5 k V)) (hu : Upd (fun k => k = B) w w6) (hV : SlotsAt w V l) (hl : RowOk l) (hk : isNumB k = true) : LedAt w6 v B (putL L k l) := by
  obtain ⟨⟨bp, m, rfl, hne, hc, hm', hr⟩, hok, hap⟩ := h
  obtain rfl := hm.unique hm'
  have hF : ∀ k cur T fz, w.heap[k]? = some (.cells cur T fz) → ¬ k = B := by
    rintro k cur T fz hb rfl
    obtain ⟨_, _, hb', _⟩ := hm
    rw [hb] at hb'; cases hb'
  refine ⟨⟨bp, _, rfl, hne, ?_, hm6, (hr.put k hV).kept hu hF⟩, ?_, putL_nodup hap k l⟩
  · rw [← hc]
    exact World.cell?_of_block (hu.block bp (World.block_lt_of_cell? w _ hc) hne)
  · intro x hx
    rcases putL_mem hx with rfl | hx
    · exact ⟨hl, hk⟩
    · exact hok x hx

theorem RowOk.last5 {l : List Slot} {x : Slot} (h : l = [] ∨ RowOk l) (hx1 : isNumB x.seq = true) (hx2 : isNumB x.base = true) (hx3 : isNumB x.fin = true) (hx4 : x.base < x.fin)
    (hn : ∀ (h : 0 < l.length), x.seq = (l[l.length - 1]'(by omega)).seq + 1 ∧ (l[l.length - 1]'(by omega)).fin ≤ x.base) : RowOk (last5 (l ++ [x])) := by
  have hg : RowGood l := by
    rcases h with rfl | h
    · intro i hi; simp at hi
    · exact h.2.2
  have hs := (hg.snoc hx1 hx2 hx3 hx4 hn).drop ((l ++ [x]).length - 5)
  refine ⟨?_, ?_, hs⟩
  · intro e
    have := congrArg List.length e
    simp [Go.Proofs.YtcpaaleogmiamaaGreatDoor.last5] at this
    omega
  · simp [Go.Proofs.YtcpaaleogmiamaaGreatDoor.last5]; omega

theorem MRel.length {w : World} : ∀ {m : List (Int × Value)} {L : List (Int × List Slot)}, MRel w m L → m.length = L.length
  | [], [], _ => rfl
  | _ :: _, _ :: _, h => by simp [MRel.length h.2.2]
  | [], _ :: _, h => h.elim
  | _ :: _, [], h => h.elim

/-! slots, tables that came in -/
def SlotsRd (w : World) (v : Value) (l : List Slot) : Prop := Rd w 3 v l.length (rowCells l)
theorem SlotsAt.rd {w : World} {v : Value} {l : List Slot} (h : SlotsAt w v l) : SlotsRd w v l := Sl.rd h
theorem SlotsRd.below {w w' : World} {v : Value} {l : List Slot} (h : SlotsRd w v l) (hu : Below w.heap.size w w') : SlotsRd w' v l := Rd.below h hu

def MRd (w : World) : List (Int × Value) → List (Int × List Slot) → Prop
  | [], [] => True
  | p :: m, q :: L => p.1 = q.1 ∧ SlotsRd w p.2 q.2 ∧ MRd w m L
  | _, _ => False

theorem MRel.rd {w : World} : ∀ {m : List (Int × Value)} {L : List (Int × List Slot)}, MRel w m L → MRd w m L
  | [], [], _ => trivial
  | _ :: _, _ :: _, h => ⟨h.1, h.2.1.rd, h.2.2.rd⟩
  | [], _ :: _, h => h.elim
  | _ :: _, [], h => h.elim

theorem MRd.upd {w w' : World} {F : Nat → Prop} (hu : Upd F w w') (hF : ∀ k cur T fz, w.heap[k]? = some (.cells cur T fz) → ¬ F k) :
    ∀ {m : List (Int × Value)} {L : List (Int × List Slot)}, MRd w m L → MRd w' m L
  | [], [], _ => trivial
  | _ :: _, _ :: _, h => ⟨h.1, Rd.upd h.2.1 hu hF, MRd.upd hu hF h.2.2⟩
  | [], _ :: _, h => h.elim
  | _ :: _, [], h => h.elim

theorem MRd.length {w : World} : ∀ {m : List (Int × Value)} {L : List (Int × List Slot)}, MRd w m L → m.length = L.length
  | [], [], _ => rfl
  | _ :: _, _ :: _, h => by simp [MRd.length h.2.2]
  | [], _ :: _, h => h.elim
  | _ :: _, [], h => h.elim

theorem MRd.get {w : World} : ∀ {m : List (Int × Value)} {L : List (Int × List Slot)}, MRd w m L → ∀ k (h1 : k < m.length) (h2 : k < L.length), m[k].1 = L[k].1 ∧ SlotsRd w m[k].2 L[k].2
  | [], [], _, k, h1, _ => absurd h1 (Nat.not_lt_zero k)
  | _ :: _, _ :: _, h, 0, _, _ => ⟨h.1, h.2.1⟩
  | _ :: _, _ :: _, h, k + 1, h1, h2 => MRd.get h.2.2 k (by simpa using h1) (by simpa using h2)
  | [], _ :: _, h, _, _, _ => h.elim
  | _ :: _, [], h, _, _, _ => h.elim

/-- v is a slice that reads the table T, cell by cell. -/
def SeensRd (w : World) (v : Value) (T : List (Int × List Slot)) : Prop := ∃ m, Rd w 2 v m.length (seenCells m) ∧ MRd w m T
theorem SeensAt.rd {w : World} {v : Value} {T : List (Int × List Slot)} (h : SeensAt w v T) : SeensRd w v T := by
  obtain ⟨m, h1, h2⟩ := h
  exact ⟨m, h1.rd, h2.rd⟩
theorem SeensRd.upd {w w' : World} {F : Nat → Prop} {v : Value} {T : List (Int × List Slot)} (h : SeensRd w v T) (hu : Upd F w w')
    (hF : ∀ k cur T fz, w.heap[k]? = some (.cells cur T fz) → ¬ F k) : SeensRd w' v T := by
  obtain ⟨m, h1, h2⟩ := h
  exact ⟨m, h1.upd hu hF, h2.upd hu hF⟩
theorem SeensRd.below {w w' : World} {v : Value} {T : List (Int × List Slot)} (h : SeensRd w v T) (hu : Below w.heap.size w w') : SeensRd w' v T :=
  h.upd (F := fun _ => False) (.of_below hu) (fun _ _ _ _ _ h => h)

/-- Slots that came in: their cells. -/
theorem SlotsRd.cells {w : World} {a : Option Addr} {cap : Nat} {l : List Slot} (h : SlotsRd w (.slice a l.length cap) l) :
    ∀ k (_ : k < l.length), ∃ b off, a = some ⟨b, off, none⟩ ∧ b < w.heap.size ∧ w.cell? ⟨b, off + k * 3, none⟩ = some (.int .i64 l[k].seq) ∧ w.cell? ⟨b, off + k * 3 + 1, none⟩ = some (.int .i64 l[k].base) ∧ w.cell? ⟨b, off + k * 3 + 2, none⟩ = some (.int .i64 l[k].fin) := by
  intro k hk
  obtain ⟨b, off, cap, e, _, _, hb, hc⟩ := Rd.at h (by omega)
  simp only [Value.slice.injEq, true_and] at e
  have := rowCells_get l k hk
  exact ⟨b, off, e.1, hb, hc _ _ this.1, hc (k * 3 + 1) _ this.2.1, hc (k * 3 + 2) _ this.2.2⟩

/-- A table's cells, one seen by one. -/
theorem SeensRd.cells {w : World} {v : Value} {T : List (Int × List Slot)} (h : SeensRd w v T) : ∃ a cap, v = .slice a T.length cap ∧ T.length ≤ maxLen ∧
    ∀ k (_ : k < T.length), ∃ b off sa sc, a = some ⟨b, off, none⟩ ∧ b < w.heap.size ∧ w.cell? ⟨b, off + k * 2, none⟩ = some (.int .i64 T[k].1) ∧ w.cell? ⟨b, off + k * 2 + 1, none⟩ = some (.slice sa T[k].2.length sc) ∧
      SlotsRd w (.slice sa T[k].2.length sc) T[k].2 := by
  obtain ⟨m, hs, hr⟩ := h
  have hl := hr.length
  obtain ⟨a, cap, rfl, _⟩ := hs.shape
  refine ⟨a, cap, by rw [hl], by rw [← hl]; exact hs.maxlen, ?_⟩
  intro k hk
  obtain ⟨b, off, cap, e, _, _, hb, hc⟩ := hs.at (by omega)
  simp only [Value.slice.injEq, true_and] at e
  have hg := seenCells_get m k (by omega)
  obtain ⟨h1, h2⟩ := hr.get k (by omega) hk
  obtain ⟨sa, sc, e2, _⟩ := Rd.shape h2
  refine ⟨b, off, sa, sc, e.1, hb, ?_, ?_, by rw [← e2]; exact h2⟩
  · rw [← h1]; exact hc _ _ hg.1
  · have := hc (k * 2 + 1) _ hg.2
    rw [e2] at this; exact this
end Go.Proofs.YtcpaaleogmiamaaGreatDoor
