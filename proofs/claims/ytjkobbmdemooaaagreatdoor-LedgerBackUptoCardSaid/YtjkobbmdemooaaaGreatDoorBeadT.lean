/- Plain Lean, no program in sight: a table's bytes, and what reads them. -/
import Derived.Test.YtjkobbmdemooaaaGreatDoorBeadM
import Derived.Test.YtjkobbmdemooaaaGreatDoorLedF0
namespace Go.Proofs.YtjkobbmdemooaaaGreatDoor
open Go.Lib

/-! ### A table's bytes -/

def encSlot (x : Slot) : List UInt8 := 108 :: (encI x.seq ++ (encI x.base ++ (encI x.fin ++ [101])))
def encRow (p : Int × List Slot) : List UInt8 := 108 :: (encI p.1 ++ (p.2.flatMap encSlot ++ [101]))
def encT (T : List (Int × List Slot)) : List UInt8 := 108 :: (T.flatMap encRow ++ [101])

def rdSlot (st : RS) : Slot × RS :=
  (⟨(rdI (rdS 108 st)).1, (rdI (rdI (rdS 108 st)).2).1, (rdI (rdI (rdI (rdS 108 st)).2).2).1⟩, rdS 101 (rdI (rdI (rdI (rdS 108 st)).2).2).2)

def rdSlots (ok : Nat → Bool) (st : RS) : List Slot × RS := many rdSlot ok (fuel st) st []

def rdRow (ok : Nat → Bool) (st : RS) : (Int × List Slot) × RS :=
  (((rdI (rdS 108 st)).1, (rdSlots ok (rdI (rdS 108 st)).2).1), rdS 101 (rdSlots ok (rdI (rdS 108 st)).2).2)

def rdRows (ok5 ok64 : Nat → Bool) (st : RS) : List (Int × List Slot) × RS := many (rdRow ok5) ok64 (fuel st) st []

def rdTable (ok5 ok64 : Nat → Bool) (s : List UInt8) : List (Int × List Slot) × RS :=
  ((rdRows ok5 ok64 (rdS 108 (s, false))).1, rdS 101 (rdRows ok5 ok64 (rdS 108 (s, false))).2)

def decT (ok5 ok64 : Nat → Bool) (s : List UInt8) : Option (List (Int × List Slot)) :=
  if rdD (rdTable ok5 ok64 s).2 = true ∧ isTableB (rdTable ok5 ok64 s).1 = true then some (rdTable ok5 ok64 s).1 else none

theorem rdSlot_lt (st : RS) (h : st.2 = false) : fuel (rdSlot st).2 < fuel st := by
  have h1 := rdS_lt (c := 108) h
  have h2 := rdI_le (rdS 108 st)
  have h3 := rdI_le (rdI (rdS 108 st)).2
  have h4 := rdI_le (rdI (rdI (rdS 108 st)).2).2
  have h5 := rdS_le 101 (rdI (rdI (rdI (rdS 108 st)).2).2).2
  simp only [rdSlot]
  omega

theorem rdRow_lt (ok : Nat → Bool) (st : RS) (h : st.2 = false) : fuel (rdRow ok st).2 < fuel st := by
  have h1 := rdS_lt (c := 108) h
  have h2 := rdI_le (rdS 108 st)
  have h3 := many_le (ok := ok) rdSlot_lt (fuel (rdI (rdS 108 st)).2) (rdI (rdS 108 st)).2 []
  have h5 := rdS_le 101 (rdSlots ok (rdI (rdS 108 st)).2).2
  simp only [rdRow, rdSlots] at h3 h5 ⊢
  omega

theorem rdSlot_sound (st : RS) (h : (rdSlot st).2.2 = false) : st.2 = false ∧ st.1 = encSlot (rdSlot st).1 ++ (rdSlot st).2.1 := by
  obtain ⟨h1, e1⟩ := rdS_sound h
  obtain ⟨h2, -, e2⟩ := rdI_sound h1
  obtain ⟨h3, -, e3⟩ := rdI_sound h2
  obtain ⟨h4, -, e4⟩ := rdI_sound h3
  obtain ⟨h5, e5⟩ := rdS_sound h4
  refine ⟨h5, ?_⟩
  rw [e5, e4, e3, e2, e1]
  simp [encSlot, rdSlot]

theorem rdRow_sound (ok : Nat → Bool) (st : RS) (h : (rdRow ok st).2.2 = false) : st.2 = false ∧ st.1 = encRow (rdRow ok st).1 ++ (rdRow ok st).2.1 := by
  obtain ⟨h1, e1⟩ := rdS_sound h
  obtain ⟨h2, l, e2, e3⟩ := many_sound (ok := ok) rdSlot_sound _ _ [] h1
  obtain ⟨h4, -, e4⟩ := rdI_sound h2
  obtain ⟨h5, e5⟩ := rdS_sound h4
  refine ⟨h5, ?_⟩
  simp only [List.nil_append] at e2
  rw [e5, e4, e3]
  change _ = encRow (_, (many rdSlot ok _ _ []).1) ++ _
  rw [e2]
  change (many rdSlot ok _ _ []).2.1 = _ at e1
  rw [e1]
  simp [encRow, rdRow, rdSlots]

theorem rdTable_sound {ok5 ok64 : Nat → Bool} {s : List UInt8} (h : rdD (rdTable ok5 ok64 s).2 = true) : s = encT (rdTable ok5 ok64 s).1 := by
  unfold rdD at h
  simp only [Bool.and_eq_true, Bool.not_eq_true', List.isEmpty_iff] at h
  obtain ⟨hb, he⟩ := h
  obtain ⟨h1, e1⟩ := rdS_sound hb
  obtain ⟨h2, l, e2, e3⟩ := many_sound (ok := ok64) (rdRow_sound ok5) _ _ [] h1
  obtain ⟨h5, e5⟩ := rdS_sound h2
  simp only [List.nil_append] at e2
  change s = _ at e5
  change (rdTable ok5 ok64 s).1 = l at e2
  change _ = 101 :: (rdTable ok5 ok64 s).2.1 at e1
  rw [he] at e1
  change (many (rdRow ok5) ok64 _ _ []).2.1 = _ at e1
  rw [e2]
  rw [e5, e3, e1]
  rfl

def SlotI (x : Slot) : Prop := I64 x.seq ∧ I64 x.base ∧ I64 x.fin
def RowI (ok5 : Nat → Bool) (p : Int × List Slot) : Prop := I64 p.1 ∧ (∀ x ∈ p.2, SlotI x) ∧ ∀ i, i < p.2.length → ok5 i = true

theorem rdSlot_enc (x : Slot) (r : List UInt8) (h : SlotI x) : rdSlot (encSlot x ++ r, false) = (x, (r, false)) ∧ rdM (encSlot x ++ r, false) = true := by
  obtain ⟨h1, h2, h3⟩ := h
  have e : encSlot x ++ r = 108 :: (encI x.seq ++ (encI x.base ++ (encI x.fin ++ (101 :: r)))) := by simp [encSlot]
  rw [e]
  refine ⟨?_, rfl⟩
  unfold rdSlot
  rw [rdS_enc, rdI_enc h1]
  simp only
  rw [rdI_enc h2]
  simp only
  rw [rdI_enc h3]
  simp only
  rw [rdS_enc]

theorem rdRow_enc (ok5 : Nat → Bool) (p : Int × List Slot) (r : List UInt8) (h : RowI ok5 p) : rdRow ok5 (encRow p ++ r, false) = (p, (r, false)) ∧ rdM (encRow p ++ r, false) = true := by
  obtain ⟨h1, h2, h3⟩ := h
  have e : encRow p ++ r = 108 :: (encI p.1 ++ (p.2.flatMap encSlot ++ (101 :: r))) := by simp [encRow]
  rw [e]
  refine ⟨?_, rfl⟩
  have hm : rdSlots ok5 (p.2.flatMap encSlot ++ 101 :: r, false) = (p.2, (101 :: r, false)) := by
    unfold rdSlots
    have hf := flat_le encSlot (fun a => by simp [encSlot]) p.2
    rw [many_enc (P := SlotI) rdSlot_enc r p.2 _ [] h2 (by simp only [fuel, Bool.false_eq_true, if_false, List.length_append]; omega) (fun i hi => h3 i (by simpa using hi))]
    simp
  unfold rdRow
  rw [rdS_enc, rdI_enc h1]
  simp only
  rw [hm]
  simp only
  rw [rdS_enc]

theorem rdTable_enc {ok5 ok64 : Nat → Bool} {T : List (Int × List Slot)} (h : ∀ p ∈ T, RowI ok5 p) (ho : ∀ i, i < T.length → ok64 i = true) :
    rdTable ok5 ok64 (encT T) = (T, ([], false)) := by
  have hm : rdRows ok5 ok64 (T.flatMap encRow ++ [101], false) = (T, ([101], false)) := by
    unfold rdRows
    have hf := flat_le encRow (fun a => by simp [encRow]) T
    rw [many_enc (P := RowI ok5) (rdRow_enc ok5) [] T _ [] h (by simp only [fuel, Bool.false_eq_true, if_false, List.length_append]; omega) (fun i hi => ho i (by simpa using hi))]
    simp
  unfold rdTable encT
  rw [rdS_enc, hm]
  simp only
  rw [rdS_enc]

theorem isNumB_I64 {n : Int} (h : isNumB n = true) : I64 n := by
  simp only [isNumB, Bool.and_eq_true, decide_eq_true_eq] at h
  exact ⟨by omega, by omega⟩

theorem isTableB_RowI {T : List (Int × List Slot)} (h : isTableB T = true) {ok5 : Nat → Bool} (h5 : ∀ i, i < 5 → ok5 i = true) : ∀ p ∈ T, RowI ok5 p := by
  intro p hp
  obtain ⟨k, hk, rfl⟩ := List.mem_iff_getElem.1 hp
  obtain ⟨hr, hn, -⟩ := (isTableB_ok h).1 k hk
  obtain ⟨-, hl, hg⟩ := hr
  refine ⟨isNumB_I64 hn, ?_, fun i hi => h5 i (by omega)⟩
  intro x hx
  obtain ⟨j, hj, rfl⟩ := List.mem_iff_getElem.1 hx
  obtain ⟨a, b, c, -⟩ := hg j hj
  exact ⟨isNumB_I64 a, isNumB_I64 b, isNumB_I64 c⟩

theorem decT_iff {ok5 ok64 : Nat → Bool} (h5 : ∀ i, i < 5 → ok5 i = true) (h64 : ∀ i, i < 64 → ok64 i = true) (s : List UInt8) (T : List (Int × List Slot)) :
    decT ok5 ok64 s = some T ↔ isTableB T = true ∧ s = encT T := by
  constructor
  · intro h
    unfold decT at h
    split at h
    · rename_i hc
      simp only [Option.some.injEq] at h
      subst h
      exact ⟨hc.2, rdTable_sound hc.1⟩
    · cases h
  · rintro ⟨h, rfl⟩
    have he := rdTable_enc (isTableB_RowI h h5) (fun i hi => h64 i (by have := (isTableB_ok h).2; omega))
    unfold decT
    rw [he]
    simp only
    rw [if_pos ⟨rfl, h⟩]

/-- Both ways of reading read the same. -/
theorem decT_eq {a b c d : Nat → Bool} (ha : ∀ i, i < 5 → a i = true) (hb : ∀ i, i < 64 → b i = true) (hc : ∀ i, i < 5 → c i = true) (hd : ∀ i, i < 64 → d i = true) (s : List UInt8) :
    decT a b s = decT c d s := by
  cases h : decT c d s with
  | none =>
    cases h' : decT a b s with
    | none => rfl
    | some T => rw [decT_iff ha hb, ← decT_iff hc hd, h] at h'; cases h'
  | some T => rw [decT_iff ha hb, ← decT_iff hc hd]; exact h
theorem encI_le {n : Int} (h : I64 n) : (encI n).length ≤ 23 := by
  have := Lib.itoa_length_le n h.1 h.2
  simp only [encI, List.length_cons, List.length_append, List.length_nil]
  omega

theorem flat_bound {α : Type} (f : α → List UInt8) (K : Nat) : ∀ l : List α, (∀ a ∈ l, (f a).length ≤ K) → (l.flatMap f).length ≤ l.length * K
  | [], _ => by simp
  | a :: l, h => by
    have h1 := h a (by simp)
    have h2 := flat_bound f K l (fun x hx => h x (by simp [hx]))
    rw [List.flatMap_cons, List.length_append, List.length_cons, Nat.succ_mul]
    omega

theorem encSlot_le {x : Slot} (h : SlotI x) : (encSlot x).length ≤ 71 := by
  have h1 := encI_le h.1
  have h2 := encI_le h.2.1
  have h3 := encI_le h.2.2
  simp only [encSlot, List.length_cons, List.length_append, List.length_nil]
  omega

theorem encRow_le {p : Int × List Slot} (h1 : I64 p.1) (h2 : ∀ x ∈ p.2, SlotI x) (h3 : p.2.length ≤ 5) : (encRow p).length ≤ 380 := by
  have a := encI_le h1
  have b := flat_bound encSlot 71 p.2 (fun x hx => encSlot_le (h2 x hx))
  have c : p.2.length * 71 ≤ 5 * 71 := Nat.mul_le_mul_right 71 h3
  simp only [encRow, List.length_cons, List.length_append, List.length_nil]
  omega

theorem table_rows {T : List (Int × List Slot)} (h : isTableB T = true) (k : Nat) (hk : k < T.length) : I64 T[k].1 ∧ (∀ x ∈ T[k].2, SlotI x) ∧ T[k].2.length ≤ 5 := by
  have := isTableB_RowI h (ok5 := fun i => decide (i < 5)) (fun i hi => by simpa using hi) T[k] (List.getElem_mem hk)
  exact ⟨this.1, this.2.1, ((isTableB_ok h).1 k hk).1.2.1⟩

theorem encT_flat {T : List (Int × List Slot)} (h : isTableB T = true) : (T.flatMap encRow).length ≤ 24320 := by
  have hb := flat_bound encRow 380 T (fun p hp => by
    obtain ⟨k, hk, rfl⟩ := List.getElem_of_mem hp
    obtain ⟨a, b, c⟩ := table_rows h k hk
    exact encRow_le a b c)
  have hl := (isTableB_ok h).2
  have : T.length * 380 ≤ 64 * 380 := Nat.mul_le_mul_right 380 hl
  omega
end Go.Proofs.YtjkobbmdemooaaaGreatDoor
