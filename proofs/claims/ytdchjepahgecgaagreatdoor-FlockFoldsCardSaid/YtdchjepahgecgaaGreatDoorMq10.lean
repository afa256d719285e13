/- Texts as bytes, in plain words. -/
/- What a record says, in plain words. -/
import Derived.Test.YtdchjepahgecgaaGreatDoorMq4
import Derived.Test.YtdchjepahgecgaaGreatDoorMq8
namespace Go.Proofs.YtdchjepahgecgaaGreatDoor
open Go.RowKit Go.Lib

/-- A text's bytes. -/
def encX (t : List UInt8) : List UInt8 := itoa t.length ++ 58 :: t

def bTxt (most : Nat) (s : List UInt8) : Option (List UInt8 × List UInt8) :=
  if (cut s [58]).2.2 = true then
    match atoiAll (cut s [58]).1 with
    | .ok n => if itoa n = (cut s [58]).1 ∧ 0 ≤ n ∧ n ≤ (most : Int) ∧ n ≤ ((cut s [58]).2.1.length : Int) then some ((cut s [58]).2.1.take n.toNat, (cut s [58]).2.1.drop n.toNat) else none
    | _ => none
  else none

theorem itoa_no_colon (n : Int) : (58 : UInt8) ∉ itoa n := by
  intro h
  rcases itoa_mem h with h | h
  · exact absurd h (by decide)
  · exact absurd h (by decide)

theorem bTxt_iff {most : Nat} (hm : most ≤ 1000) (s t r : List UInt8) : bTxt most s = some (t, r) ↔ t.length ≤ most ∧ s = encX t ++ r := by
  constructor
  · intro h
    unfold bTxt at h
    split at h
    · rename_i h1
      split at h
      · rename_i n hn
        split at h
        · rename_i hc
          obtain ⟨h2, h3, h4, h5⟩ := hc
          simp only [Option.some.injEq, Prod.mk.injEq] at h
          obtain ⟨rfl, rfl⟩ := h
          have hl : ((cut s [58]).2.1.take n.toNat).length = n.toNat := by rw [List.length_take]; omega
          refine ⟨by rw [hl]; omega, ?_⟩
          have e1 := cut_split h1
          have e2 : ((n.toNat : Nat) : Int) = n := by omega
          unfold encX
          rw [hl, e2, h2, List.append_assoc, List.cons_append, List.take_append_drop]
          exact e1
        · cases h
      · cases h
    · cases h
  · rintro ⟨hl, rfl⟩
    have hs : encX t ++ r = itoa t.length ++ 58 :: (t ++ r) := by simp [encX]
    have hc := cut_hit (r := t ++ r) (itoa_no_colon t.length)
    rw [← hs] at hc
    unfold bTxt
    rw [hc, if_pos rfl]
    simp only
    rw [atoi_itoa ⟨by omega, by omega⟩]
    simp only [List.length_append]
    rw [if_pos (by refine ⟨?_, ?_, ?_, ?_⟩ <;> first | trivial | omega | (simp; omega))]
    simp

def rdT (most : Nat) (st : RS) : List UInt8 × RS :=
  if st.2 = true then ([], st) else match bTxt most st.1 with | some (t, r) => (t, (r, false)) | none => ([], (st.1, true))

theorem rdT_bad {most : Nat} {st : RS} (h : st.2 = true) : rdT most st = ([], st) := by rw [rdT, if_pos h]

theorem rdT_sound {most : Nat} (hm : most ≤ 1000) {st : RS} (h : (rdT most st).2.2 = false) : st.2 = false ∧ (rdT most st).1.length ≤ most ∧ st.1 = encX (rdT most st).1 ++ (rdT most st).2.1 := by
  unfold rdT at h ⊢
  split at h
  · rename_i hb; rw [hb] at h; cases h
  · rename_i hb
    rw [if_neg hb]
    cases hx : bTxt most st.1 with
    | none => simp [hx] at h
    | some q =>
      obtain ⟨t, r⟩ := q
      obtain ⟨h1, h2⟩ := (bTxt_iff hm _ _ _).1 hx
      exact ⟨by simpa using hb, h1, h2⟩

theorem rdT_enc {most : Nat} (hm : most ≤ 1000) {t : List UInt8} (h : t.length ≤ most) (r : List UInt8) : rdT most (encX t ++ r, false) = (t, (r, false)) := by
  unfold rdT
  rw [if_neg (by simp), (bTxt_iff hm _ _ _).2 ⟨h, rfl⟩]

theorem encX_pos (t : List UInt8) : 1 ≤ (encX t).length := by simp [encX]; omega

theorem rdT_lt {most : Nat} (hm : most ≤ 1000) {st : RS} (h : st.2 = false) : fuel (rdT most st).2 < fuel st := by
  cases hx : bTxt most st.1 with
  | none =>
    have : rdT most st = ([], (st.1, true)) := by unfold rdT; rw [if_neg (by simp [h]), hx]
    rw [this]
    simp [fuel, h]
  | some q =>
    obtain ⟨t, r⟩ := q
    have e : rdT most st = (t, (r, false)) := by unfold rdT; rw [if_neg (by simp [h]), hx]
    obtain ⟨h1, h2⟩ := (bTxt_iff hm _ _ _).1 hx
    rw [e]
    have := encX_pos t
    simp only [fuel, h, Bool.false_eq_true, if_false]
    rw [h2, List.length_append]
    omega

theorem rdT_le {most : Nat} (hm : most ≤ 1000) (st : RS) : fuel (rdT most st).2 ≤ fuel st := by
  cases h : st.2 with
  | true => rw [rdT_bad h]; exact Nat.le_refl _
  | false => exact Nat.le_of_lt (rdT_lt hm h)
theorem rdT_len {most : Nat} (hm : most ≤ 1000) (st : RS) : (rdT most st).1.length ≤ most := by
  unfold rdT
  split
  · exact Nat.zero_le _
  · cases hx : bTxt most st.1 with
    | none => exact Nat.zero_le _
    | some q => exact ((bTxt_iff hm _ _ _).1 hx).1
end Go.Proofs.YtdchjepahgecgaaGreatDoor
namespace Go.Proofs.YtdchjepahgecgaaGreatDoor
open Go.RowKit

/-- What a record says (flock's word). -/
structure Wd where
  kind : UInt8
  group : List UInt8
  gen : Int
  parts : Int
  members : List (List UInt8)
  part : Int
  off : Int
  code : Int
  deriving DecidableEq
def Wd.zero : Wd := ⟨0, [], 0, 0, [], 0, 0, 0⟩

abbrev rdMs (st : RS) : List (List UInt8) × RS := many (rdT 8) (fun _ => true) (fuel st) st []
def offB (n : Int) : Bool := decide (0 ≤ n) && decide (n ≤ 1099511627776)

/-- A turn's bytes: the word, whether it is one, the reader behind it (ahead of the last sign). -/
def rdTurn (g : List UInt8) (st : RS) : Wd × Bool × RS :=
  let a := rdI st
  let b := rdI a.2
  let m := rdMs (rdS 108 b.2)
  (⟨116, g, a.1, b.1, m.1, 0, 0, 0⟩, nameB g && (goodB m.1 && (decide (0 ≤ b.1) && decide (b.1 ≤ 4))), rdS 101 m.2)
/-- A point's. -/
def rdPoint (d : UInt8) (g : List UInt8) (st : RS) : Wd × Bool × RS :=
  let a := rdI st
  let b := rdI a.2
  (⟨99, g, b.1, 0, [], (d.toNat : Int) - 48, a.1, 0⟩, nameB g && offB a.1, b.2)
/-- A no's. -/
def rdNo (g : List UInt8) (st : RS) : Wd × Bool × RS :=
  let a := rdI st
  (⟨110, g, 0, 0, [], 0, 0, a.1⟩, g.isEmpty, a.2)

def partDig (d : UInt8) : Bool := decide (48 ≤ d.toNat) && decide (d.toNat < 52)

/-- What stands behind the key's first byte is read. -/
def rdBody (c : UInt8) (g : List UInt8) (st : RS) : Wd × Bool × RS :=
  if c = 116 then rdTurn g st
  else if c = 99 then (match g with | [] => (.zero, false, st) | d :: r => if partDig d = true then rdPoint d r st else (.zero, false, st))
  else if c = 110 then rdNo g st
  else (.zero, false, st)

def readP (key val : List UInt8) (gone : Bool) : Wd × Bool :=
  match key with
  | [] => (.zero, false)
  | c :: g => if gone = true then (.zero, false) else
    let q := rdBody c g (rdS 108 (val, false))
    if (q.2.1 && rdD (rdS 101 q.2.2)) = true then (q.1, true) else (.zero, false)
end Go.Proofs.YtdchjepahgecgaaGreatDoor
