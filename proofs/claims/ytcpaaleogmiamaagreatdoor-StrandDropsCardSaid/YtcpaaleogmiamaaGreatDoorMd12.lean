/- Plain Lean, no program in sight: a batch's bytes, and what reads them. -/
import Derived.Test.YtcpaaleogmiamaaGreatDoorMd10
import Derived.Test.YtcpaaleogmiamaaGreatDoorLedS
import Derived.Test.YtcpaaleogmiamaaGreatDoorMd3
namespace Go.Proofs.YtcpaaleogmiamaaGreatDoor
open Go.Lib

abbrev Rec.kB (x : Rec) : List UInt8 := x.key.data.toList
abbrev Rec.vB (x : Rec) : List UInt8 := x.val.data.toList
def flagN (b : Bool) : Int := if b = true then 1 else 0
def encR (x : Rec) : List UInt8 := 108 :: (encI x.off ++ (encX x.kB ++ (encX x.vB ++ (encI (flagN x.gone) ++ [101]))))
def encB (b : Batch) : List UInt8 := 108 :: (encI b.base ++ (encI b.count ++ (encI b.prod ++ (encI b.seq ++ (encI b.time ++ (b.recs.flatMap encR ++ [101]))))))

/-- What crate.rec takes off a reader: a record, whether it is right. -/
def rdR (st : RS) : (Rec × Bool) × RS :=
  ((⟨(rdI (rdS 108 st)).1, bs (rdT 16 (rdI (rdS 108 st)).2).1, bs (rdT 64 (rdT 16 (rdI (rdS 108 st)).2).2).1, decide ((rdI (rdT 64 (rdT 16 (rdI (rdS 108 st)).2).2).2).1 = 1)⟩,
    decide ((rdI (rdT 64 (rdT 16 (rdI (rdS 108 st)).2).2).2).1 = flagN (decide ((rdI (rdT 64 (rdT 16 (rdI (rdS 108 st)).2).2).2).1 = 1)))),
    rdS 101 (rdI (rdT 64 (rdT 16 (rdI (rdS 108 st)).2).2).2).2)

def rdRs : Nat → RS → List Rec → Option (List Rec × RS)
  | 0, st, acc => some (acc, st)
  | f + 1, st, acc => if rdM st = true then (if (rdR st).1.2 = true ∧ acc.length ≤ 8 then rdRs f (rdR st).2 (acc ++ [(rdR st).1.1]) else none) else some (acc, st)

/-- The five numbers of a batch. -/
def rd5 (st : RS) : (Int × Int × Int × Int × Int) × RS :=
  (((rdI st).1, (rdI (rdI st).2).1, (rdI (rdI (rdI st).2).2).1, (rdI (rdI (rdI (rdI st).2).2).2).1, (rdI (rdI (rdI (rdI (rdI st).2).2).2).2).1), (rdI (rdI (rdI (rdI (rdI st).2).2).2).2).2)

def rdB (s : List UInt8) : Option (Batch × RS) :=
  (rdRs (fuel (rd5 (rdS 108 (s, false))).2) (rd5 (rdS 108 (s, false))).2 []).map fun p =>
    (⟨(rd5 (rdS 108 (s, false))).1.1, (rd5 (rdS 108 (s, false))).1.2.1, (rd5 (rdS 108 (s, false))).1.2.2.1, (rd5 (rdS 108 (s, false))).1.2.2.2.1, (rd5 (rdS 108 (s, false))).1.2.2.2.2, p.1⟩, rdS 101 p.2)
def decB (s : List UInt8) : Option Batch := match rdB s with
  | some (b, st) => if rdD st = true ∧ goodB b = true then some b else none
  | none => none

theorem rdR_lt (st : RS) (h : st.2 = false) : fuel (rdR st).2 < fuel st := by
  have h1 := rdS_lt (c := 108) h
  have h2 := rdI_le (rdS 108 st)
  have h3 := rdT_le (most := 16) (by decide) (rdI (rdS 108 st)).2
  have h4 := rdT_le (most := 64) (by decide) (rdT 16 (rdI (rdS 108 st)).2).2
  have h5 := rdI_le (rdT 64 (rdT 16 (rdI (rdS 108 st)).2).2).2
  have h6 := rdS_le 101 (rdI (rdT 64 (rdT 16 (rdI (rdS 108 st)).2).2).2).2
  simp only [rdR]
  omega
theorem rdR_le (st : RS) : fuel (rdR st).2 ≤ fuel st := by
  have h1 := rdS_le 108 st
  have h2 := rdI_le (rdS 108 st)
  have h3 := rdT_le (most := 16) (by decide) (rdI (rdS 108 st)).2
  have h4 := rdT_le (most := 64) (by decide) (rdT 16 (rdI (rdS 108 st)).2).2
  have h5 := rdI_le (rdT 64 (rdT 16 (rdI (rdS 108 st)).2).2).2
  have h6 := rdS_le 101 (rdI (rdT 64 (rdT 16 (rdI (rdS 108 st)).2).2).2).2
  simp only [rdR]
  omega
theorem rd5_le (st : RS) : fuel (rd5 st).2 ≤ fuel st := by
  have h1 := rdI_le st
  have h2 := rdI_le (rdI st).2
  have h3 := rdI_le (rdI (rdI st).2).2
  have h4 := rdI_le (rdI (rdI (rdI st).2).2).2
  have h5 := rdI_le (rdI (rdI (rdI (rdI st).2).2).2).2
  simp only [rd5]
  omega

theorem rdR_sound {st : RS} (h : (rdR st).2.2 = false) (hk : (rdR st).1.2 = true) : st.2 = false ∧ st.1 = encR (rdR st).1.1 ++ (rdR st).2.1 := by
  obtain ⟨h1, e1⟩ := rdS_sound h
  obtain ⟨h2, -, e2⟩ := rdI_sound h1
  obtain ⟨h3, -, e3⟩ := rdT_sound (by decide) h2
  obtain ⟨h4, -, e4⟩ := rdT_sound (by decide) h3
  obtain ⟨h5, -, e5⟩ := rdI_sound h4
  obtain ⟨h6, e6⟩ := rdS_sound h5
  refine ⟨h6, ?_⟩
  have hk2 := of_decide_eq_true hk
  rw [e6, e5, e4, e3, e2, e1]
  simp only [encR, rdR, Rec.kB, Rec.vB, bs_data]
  rw [← hk2]
  simp

theorem rdRs_sound : ∀ (f : Nat) (st : RS) (acc l' : List Rec) (st' : RS), rdRs f st acc = some (l', st') → st'.2 = false → st.2 = false ∧ ∃ l, l' = acc ++ l ∧ st.1 = l.flatMap encR ++ st'.1
  | 0, st, acc, l', st', h, hb => by
    simp only [rdRs, Option.some.injEq, Prod.mk.injEq] at h
    obtain ⟨rfl, rfl⟩ := h
    exact ⟨hb, [], by simp, by simp⟩
  | f + 1, st, acc, l', st', h, hb => by
    rw [rdRs] at h
    split at h
    · split at h
      · rename_i h1 h2
        obtain ⟨a, l, b, c⟩ := rdRs_sound f _ _ _ _ h hb
        obtain ⟨d, e⟩ := rdR_sound a h2.1
        exact ⟨d, (rdR st).1.1 :: l, by rw [b]; simp, by rw [List.flatMap_cons, List.append_assoc, ← c]; exact e⟩
      · cases h
    · simp only [Option.some.injEq, Prod.mk.injEq] at h
      obtain ⟨rfl, rfl⟩ := h
      exact ⟨hb, [], by simp, by simp⟩

def RecI (x : Rec) : Prop := I64 x.off ∧ x.kB.length ≤ 16 ∧ x.vB.length ≤ 64
theorem i64_flag (b : Bool) : I64 (flagN b) := by cases b <;> exact ⟨by decide, by decide⟩
theorem rdR_enc {x : Rec} (h : RecI x) (r : List UInt8) : rdR (encR x ++ r, false) = ((x, true), (r, false)) ∧ rdM (encR x ++ r, false) = true := by
  obtain ⟨h1, h2, h3⟩ := h
  have e : encR x ++ r = 108 :: (encI x.off ++ (encX x.kB ++ (encX x.vB ++ (encI (flagN x.gone) ++ (101 :: r))))) := by simp [encR]
  rw [e]
  refine ⟨?_, rfl⟩
  have q1 : rdI (rdS 108 (108 :: (encI x.off ++ (encX x.kB ++ (encX x.vB ++ (encI (flagN x.gone) ++ (101 :: r))))), false)) = (x.off, ((encX x.kB ++ (encX x.vB ++ (encI (flagN x.gone) ++ (101 :: r)))), false)) := by rw [rdS_enc, rdI_enc h1]
  have q2 : rdT 16 ((encX x.kB ++ (encX x.vB ++ (encI (flagN x.gone) ++ (101 :: r)))), false) = (x.kB, (encX x.vB ++ (encI (flagN x.gone) ++ (101 :: r)), false)) := rdT_enc (by decide) h2 _
  have q3 : rdT 64 (encX x.vB ++ (encI (flagN x.gone) ++ (101 :: r)), false) = (x.vB, (encI (flagN x.gone) ++ (101 :: r), false)) := rdT_enc (by decide) h3 _
  have q4 : rdI (encI (flagN x.gone) ++ (101 :: r), false) = (flagN x.gone, (101 :: r, false)) := rdI_enc (i64_flag _) _
  unfold rdR
  rw [q1]
  simp only
  rw [q2]
  simp only
  rw [q3]
  simp only
  rw [q4]
  simp only
  rw [rdS_enc]
  obtain ⟨off, key, val, gone⟩ := x
  cases gone <;> simp [flagN, bs_of]

theorem rdRs_enc (r : List UInt8) : ∀ (l : List Rec) (f : Nat) (acc : List Rec), (∀ a ∈ l, RecI a) → l.length ≤ f → acc.length + l.length ≤ 9 → rdRs f (l.flatMap encR ++ 101 :: r, false) acc = some (acc ++ l, (101 :: r, false))
  | [], f, acc, _, _, _ => by
    cases f with
    | zero => simp [rdRs]
    | succ f => rw [rdRs, if_neg (by simp [rdM])]; simp
  | a :: l, 0, acc, _, hf, _ => by simp at hf
  | a :: l, f + 1, acc, hp, hf, ho => by
    obtain ⟨e1, e2⟩ := rdR_enc (hp a (by simp)) (l.flatMap encR ++ 101 :: r)
    have e3 : (a :: l).flatMap encR ++ 101 :: r = encR a ++ (l.flatMap encR ++ 101 :: r) := by simp
    simp only [List.length_cons] at ho hf
    rw [e3, rdRs, if_pos e2, e1]
    simp only
    rw [if_pos ⟨trivial, by omega⟩, rdRs_enc r l f (acc ++ [a]) (fun x hx => hp x (by simp [hx])) (by omega) (by simp; omega)]
    simp

theorem isNumB_i64 {n : Int} (h : isNumB n = true) : I64 n := by
  simp only [isNumB, Bool.and_eq_true, decide_eq_true_eq] at h
  exact ⟨by omega, by omega⟩

theorem goodRecs_I {lim : Int} (hl : lim ≤ 1099511627776) : ∀ {l : List Rec} {n : Int}, 0 ≤ n → goodRecs lim n l = true → ∀ x ∈ l, RecI x
  | [], _, _, _, x, hx => by cases hx
  | y :: l, n, hn, h, x, hx => by
    simp only [goodRecs, Bool.and_eq_true, decide_eq_true_eq] at h
    obtain ⟨h1, h2, h3, h4⟩ := h
    rcases List.mem_cons.1 hx with rfl | hx
    · simp only [recOkB, Bool.and_eq_true, decide_eq_true_eq] at h1
      have e1 : x.kB.length = x.key.size := by rw [← bs_size, bs_of]
      have e2 : x.vB.length = x.val.size := by rw [← bs_size, bs_of]
      exact ⟨⟨by omega, by omega⟩, by omega, by omega⟩
    · exact goodRecs_I hl (by omega) h4 x hx

structure GoodB (b : Batch) : Prop where
  base : 0 ≤ b.base ∧ b.base ≤ 1099511627776
  prod : 0 ≤ b.prod ∧ b.prod ≤ 1099511627776
  seq : 0 ≤ b.seq ∧ b.seq ≤ 1099511627776
  time : 0 ≤ b.time ∧ b.time ≤ 1099511627776
  count : 1 ≤ b.count ∧ b.count ≤ 8
  fin : b.base + b.count ≤ 1099511627776
  len : (b.recs.length : Int) ≤ b.count
  recs : goodRecs (b.base + b.count) b.base b.recs = true
theorem goodB_iff (b : Batch) : goodB b = true ↔ GoodB b := by
  constructor
  · intro h
    simp only [goodB, isNumB, Bool.and_eq_true, decide_eq_true_eq] at h
    obtain ⟨h1, h2, h3, h4, h5, h6, h7, h8, h9⟩ := h
    exact ⟨h1, h2, h3, h4, ⟨h5, h6⟩, by omega, h8, h9⟩
  · rintro ⟨h1, h2, h3, h4, h5, h6, h7, h8⟩
    simp only [goodB, isNumB, Bool.and_eq_true, decide_eq_true_eq]
    exact ⟨h1, h2, h3, h4, h5.1, h5.2, by omega, h7, h8⟩
theorem GoodB.recI {b : Batch} (h : GoodB b) : ∀ x ∈ b.recs, RecI x := goodRecs_I h.fin h.base.1 h.recs

theorem decB_iff (s : List UInt8) (b : Batch) : decB s = some b ↔ goodB b = true ∧ s = encB b := by
  constructor
  · intro h
    unfold decB at h
    split at h
    · rename_i b' st hr
      split at h
      · rename_i hc
        simp only [Option.some.injEq] at h
        subst h
        refine ⟨hc.2, ?_⟩
        obtain ⟨hd, -⟩ := hc
        unfold rdB at hr
        rw [Option.map_eq_some_iff] at hr
        obtain ⟨⟨l, st1⟩, h1, h2⟩ := hr
        simp only [Prod.mk.injEq] at h2
        obtain ⟨rfl, rfl⟩ := h2
        unfold rdD at hd
        simp only [Bool.and_eq_true, Bool.not_eq_true', List.isEmpty_iff] at hd
        obtain ⟨hb, he⟩ := hd
        obtain ⟨a1, e1⟩ := rdS_sound hb
        obtain ⟨a2, l', e2, e3⟩ := rdRs_sound _ _ _ _ _ h1 a1
        obtain ⟨a3, -, e4⟩ := rdI_sound a2
        obtain ⟨a4, -, e5⟩ := rdI_sound a3
        obtain ⟨a5, -, e6⟩ := rdI_sound a4
        obtain ⟨a6, -, e7⟩ := rdI_sound a5
        obtain ⟨a7, -, e8⟩ := rdI_sound a6
        obtain ⟨a8, e9⟩ := rdS_sound a7
        simp only [List.nil_append] at e2
        subst e2
        rw [he] at e1
        rw [e1] at e3
        change s = _ at e9
        change (rd5 (rdS 108 (s, false))).2.1 = _ at e3
        simp only [rd5] at e3 ⊢
        refine e9.trans ?_
        rw [e8, e7, e6, e5, e4, e3]
        simp [encB]
      · cases h
    · cases h
  · rintro ⟨hg, rfl⟩
    have G := (goodB_iff b).1 hg
    have q1 : rdS 108 (encB b, false) = (encI b.base ++ (encI b.count ++ (encI b.prod ++ (encI b.seq ++ (encI b.time ++ (b.recs.flatMap encR ++ [101]))))), false) := rdS_enc _ _
    have i1 : I64 b.base := by have := G.base; exact ⟨by omega, by omega⟩
    have i2 : I64 b.count := by have := G.count; exact ⟨by omega, by omega⟩
    have i3 : I64 b.prod := by have := G.prod; exact ⟨by omega, by omega⟩
    have i4 : I64 b.seq := by have := G.seq; exact ⟨by omega, by omega⟩
    have i5 : I64 b.time := by have := G.time; exact ⟨by omega, by omega⟩
    have q2 : rd5 (encI b.base ++ (encI b.count ++ (encI b.prod ++ (encI b.seq ++ (encI b.time ++ (b.recs.flatMap encR ++ [101]))))), false) = ((b.base, b.count, b.prod, b.seq, b.time), (b.recs.flatMap encR ++ [101], false)) := by
      unfold rd5
      rw [rdI_enc i1]
      simp only
      rw [rdI_enc i2]
      simp only
      rw [rdI_enc i3]
      simp only
      rw [rdI_enc i4]
      simp only
      rw [rdI_enc i5]
    have hf := flat_le encR (fun a => by simp [encR]) b.recs
    have hlen := G.len
    have hcn := G.count
    have q3 : rdRs (fuel (b.recs.flatMap encR ++ [101], false)) (b.recs.flatMap encR ++ [101], false) [] = some (b.recs, ([101], false)) := by
      rw [rdRs_enc [] b.recs _ [] G.recI (by simp only [fuel, Bool.false_eq_true, if_false, List.length_append]; omega) (by simp; omega)]
      simp
    have q4 : rdB (encB b) = some (b, ([], false)) := by
      unfold rdB
      rw [q1, q2]
      simp only
      rw [q3]
      rfl
    unfold decB
    rw [q4]
    simp only
    rw [if_pos ⟨rfl, hg⟩]

theorem encB_inj {a b : Batch} (ha : goodB a = true) (hb : goodB b = true) (h : encB a = encB b) : a = b := by
  have x := (decB_iff (encB a) a).2 ⟨ha, rfl⟩
  have y := (decB_iff (encB a) b).2 ⟨hb, h⟩
  rw [x] at y
  exact Option.some.inj y
end Go.Proofs.YtcpaaleogmiamaaGreatDoor
