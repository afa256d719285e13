/- Plain Lean, no program in sight: a batch's bytes, and what reads them. -/
/- A strand's segments in plain words: their files' bytes, what is found of a file. -/
/- The names of a strand's files, in plain words. -/
import Derived.Test.YtcpaaleogmiamaaGreatDoorMp10
import Derived.Test.YtcpaaleogmiamaaGreatDoorLedS
import Derived.Test.YtcpaaleogmiamaaGreatDoorMp3
import Derived.Test.YtcpaaleogmiamaaGreatDoorBeadN
namespace Go.Proofs.YtcpaaleogmiamaaGreatDoor
open Go.Lib

abbrev Rec.kB (x : Rec) : List UInt8 := x.key.data.toList
abbrev Rec.vB (x : Rec) : List UInt8 := x.val.data.toList
def flagN (b : Bool) : Int := if b = true then 1 else 0
def encR (x : Rec) : List UInt8 := 108 :: (encI x.off ++ (encX x.kB ++ (encX x.vB ++ (encI (flagN x.gone) ++ [101]))))
def encB (b : Batch) : List UInt8 := 108 :: (encI b.base ++ (encI b.count ++ (encI b.prod ++ (encI b.seq ++ (encI b.time ++ (b.recs.flatMap encR ++ [101]))))))

/-- What crate.rec takes off a reader: a record, whether it is right. -/
def rdR (st : RS) : (Rec × Bool) × RS :=
  ((⟨(rdI (rdS 108 st)).1, bs (rdT 16 (rdI (rdS 108 st)).2).1, bs (rdT 64 (rdT 16 (rdI (rdS 108 st)).2).2).1, decide ((rdI (rdT 64 (rdT 16 (rdI (rdS 108 st)).2).2).2).1 = 1)⟩,
    decide ((rdI (rdT 64 (rdT 16 (rdI (rdS 108 st)).2).2).2).1 = flagN (decide ((rdI (rdT 64 (rdT 16 (rdI (rdS 108 st)).2).2).2).1 = 1)))),
    rdS 101 (rdI (rdT 64 (rdT 16 (rdI (rdS 108 st)).2).2).2).2)

def rdRs : Nat → RS → List Rec → Option (List Rec × RS)
  | 0, st, acc => some (acc, st)
  | f + 1, st, acc => if rdM st = true then (if (rdR st).1.2 = true ∧ acc.length ≤ 8 then rdRs f (rdR st).2 (acc ++ [(rdR st).1.1]) else none) else some (acc, st)

/-- The five numbers of a batch. -/
def rd5 (st : RS) : (Int × Int × Int × Int × Int) × RS :=
  (((rdI st).1, (rdI (rdI st).2).1, (rdI (rdI (rdI st).2).2).1, (rdI (rdI (rdI (rdI st).2).2).2).1, (rdI (rdI (rdI (rdI (rdI st).2).2).2).2).1), (rdI (rdI (rdI (rdI (rdI st).2).2).2).2).2)

def rdB (s : List UInt8) : Option (Batch × RS) :=
  (rdRs (fuel (rd5 (rdS 108 (s, false))).2) (rd5 (rdS 108 (s, false))).2 []).map fun p =>
    (⟨(rd5 (rdS 108 (s, false))).1.1, (rd5 (rdS 108 (s, false))).1.2.1, (rd5 (rdS 108 (s, false))).1.2.2.1, (rd5 (rdS 108 (s, false))).1.2.2.2.1, (rd5 (rdS 108 (s, false))).1.2.2.2.2, p.1⟩, rdS 101 p.2)
def decB (s : List UInt8) : Option Batch := match rdB s with
  | some (b, st) => if rdD st = true ∧ goodB b = true then some b else none
  | none => none

theorem rdR_lt (st : RS) (h : st.2 = false) : fuel (rdR st).2 < fuel st := by
  have h1 := rdS_lt (c := 108) h
  have h2 := rdI_le (rdS 108 st)
  have h3 := rdT_le (most := 16) (by decide) (rdI (rdS 108 st)).2
  have h4 := rdT_le (most := 64) (by decide) (rdT 16 (rdI (rdS 108 st)).2).2
  have h5 := rdI_le (rdT 64 (rdT 16 (rdI (rdS 108 st)).2).2).2
  have h6 := rdS_le 101 (rdI (rdT 64 (rdT 16 (rdI (rdS 108 st)).2).2).2).2
  simp only [rdR]
  omega
theorem rdR_le (st : RS) : fuel (rdR st).2 ≤ fuel st := by
  have h1 := rdS_le 108 st
  have h2 := rdI_le (rdS 108 st)
  have h3 := rdT_le (most := 16) (by decide) (rdI (rdS 108 st)).2
  have h4 := rdT_le (most := 64) (by decide) (rdT 16 (rdI (rdS 108 st)).2).2
  have h5 := rdI_le (rdT 64 (rdT 16 (rdI (rdS 108 st)).2).2).2
  have h6 := rdS_le 101 (rdI (rdT 64 (rdT 16 (rdI (rdS 108 st)).2).2).2).2
  simp only [rdR]
  omega
theorem rd5_le (st : RS) : fuel (rd5 st).2 ≤ fuel st := by
  have h1 := rdI_le st
  have h2 := rdI_le (rdI st).2
  have h3 := rdI_le (rdI (rdI st).2).2
  have h4 := rdI_le (rdI (rdI (rdI st).2).2).2
  have h5 := rdI_le (rdI (rdI (rdI (rdI st).2).2).2).2
  simp only [rd5]
  omega

theorem rdR_sound {st : RS} (h : (rdR st).2.2 = false) (hk : (rdR st).1.2 = true) : st.2 = false ∧ st.1 = encR (rdR st).1.1 ++ (rdR st).2.1 := by
  obtain ⟨h1, e1⟩ := rdS_sound h
  obtain ⟨h2, -, e2⟩ := rdI_sound h1
  obtain ⟨h3, -, e3⟩ := rdT_sound (by decide) h2
  obtain ⟨h4, -, e4⟩ := rdT_sound (by decide) h3
  obtain ⟨h5, -, e5⟩ := rdI_sound h4
  obtain ⟨h6, e6⟩ := rdS_sound h5
  refine ⟨h6, ?_⟩
  have hk2 := of_decide_eq_true hk
  rw [e6, e5, e4, e3, e2, e1]
  simp only [encR, rdR, Rec.kB, Rec.vB, bs_data]
  rw [← hk2]
  simp

theorem rdRs_sound : ∀ (f : Nat) (st : RS) (acc l' : List Rec) (st' : RS), rdRs f st acc = some (l', st') → st'.2 = false → st.2 = false ∧ ∃ l, l' = acc ++ l ∧ st.1 = l.flatMap encR ++ st'.1
  | 0, st, acc, l', st', h, hb => by
    simp only [rdRs, Option.some.injEq, Prod.mk.injEq] at h
    obtain ⟨rfl, rfl⟩ := h
    exact ⟨hb, [], by simp, by simp⟩
  | f + 1, st, acc, l', st', h, hb => by
    rw [rdRs] at h
    split at h
    · split at h
      · rename_i h1 h2
        obtain ⟨a, l, b, c⟩ := rdRs_sound f _ _ _ _ h hb
        obtain ⟨d, e⟩ := rdR_sound a h2.1
        exact ⟨d, (rdR st).1.1 :: l, by rw [b]; simp, by rw [List.flatMap_cons, List.append_assoc, ← c]; exact e⟩
      · cases h
    · simp only [Option.some.injEq, Prod.mk.injEq] at h
      obtain ⟨rfl, rfl⟩ := h
      exact ⟨hb, [], by simp, by simp⟩

def RecI (x : Rec) : Prop := I64 x.off ∧ x.kB.length ≤ 16 ∧ x.vB.length ≤ 64
theorem i64_flag (b : Bool) : I64 (flagN b) := by cases b <;> exact ⟨by decide, by decide⟩
theorem rdR_enc {x : Rec} (h : RecI x) (r : List UInt8) : rdR (encR x ++ r, false) = ((x, true), (r, false)) ∧ rdM (encR x ++ r, false) = true := by
  obtain ⟨h1, h2, h3⟩ := h
  have e : encR x ++ r = 108 :: (encI x.off ++ (encX x.kB ++ (encX x.vB ++ (encI (flagN x.gone) ++ (101 :: r))))) := by simp [encR]
  rw [e]
  refine ⟨?_, rfl⟩
  have q1 : rdI (rdS 108 (108 :: (encI x.off ++ (encX x.kB ++ (encX x.vB ++ (encI (flagN x.gone) ++ (101 :: r))))), false)) = (x.off, ((encX x.kB ++ (encX x.vB ++ (encI (flagN x.gone) ++ (101 :: r)))), false)) := by rw [rdS_enc, rdI_enc h1]
  have q2 : rdT 16 ((encX x.kB ++ (encX x.vB ++ (encI (flagN x.gone) ++ (101 :: r)))), false) = (x.kB, (encX x.vB ++ (encI (flagN x.gone) ++ (101 :: r)), false)) := rdT_enc (by decide) h2 _
  have q3 : rdT 64 (encX x.vB ++ (encI (flagN x.gone) ++ (101 :: r)), false) = (x.vB, (encI (flagN x.gone) ++ (101 :: r), false)) := rdT_enc (by decide) h3 _
  have q4 : rdI (encI (flagN x.gone) ++ (101 :: r), false) = (flagN x.gone, (101 :: r, false)) := rdI_enc (i64_flag _) _
  unfold rdR
  rw [q1]
  simp only
  rw [q2]
  simp only
  rw [q3]
  simp only
  rw [q4]
  simp only
  rw [rdS_enc]
  obtain ⟨off, key, val, gone⟩ := x
  cases gone <;> simp [flagN, bs_of]

theorem rdRs_enc (r : List UInt8) : ∀ (l : List Rec) (f : Nat) (acc : List Rec), (∀ a ∈ l, RecI a) → l.length ≤ f → acc.length + l.length ≤ 9 → rdRs f (l.flatMap encR ++ 101 :: r, false) acc = some (acc ++ l, (101 :: r, false))
  | [], f, acc, _, _, _ => by
    cases f with
    | zero => simp [rdRs]
    | succ f => rw [rdRs, if_neg (by simp [rdM])]; simp
  | a :: l, 0, acc, _, hf, _ => by simp at hf
  | a :: l, f + 1, acc, hp, hf, ho => by
    obtain ⟨e1, e2⟩ := rdR_enc (hp a (by simp)) (l.flatMap encR ++ 101 :: r)
    have e3 : (a :: l).flatMap encR ++ 101 :: r = encR a ++ (l.flatMap encR ++ 101 :: r) := by simp
    simp only [List.length_cons] at ho hf
    rw [e3, rdRs, if_pos e2, e1]
    simp only
    rw [if_pos ⟨trivial, by omega⟩, rdRs_enc r l f (acc ++ [a]) (fun x hx => hp x (by simp [hx])) (by omega) (by simp; omega)]
    simp

theorem isNumB_i64 {n : Int} (h : isNumB n = true) : I64 n := by
  simp only [isNumB, Bool.and_eq_true, decide_eq_true_eq] at h
  exact ⟨by omega, by omega⟩

theorem goodRecs_I {lim : Int} (hl : lim ≤ 1099511627776) : ∀ {l : List Rec} {n : Int}, 0 ≤ n → goodRecs lim n l = true → ∀ x ∈ l, RecI x
  | [], _, _, _, x, hx => by cases hx
  | y :: l, n, hn, h, x, hx => by
    simp only [goodRecs, Bool.and_eq_true, decide_eq_true_eq] at h
    obtain ⟨h1, h2, h3, h4⟩ := h
    rcases List.mem_cons.1 hx with rfl | hx
    · simp only [recOkB, Bool.and_eq_true, decide_eq_true_eq] at h1
      have e1 : x.kB.length = x.key.size := by rw [← bs_size, bs_of]
      have e2 : x.vB.length = x.val.size := by rw [← bs_size, bs_of]
      exact ⟨⟨by omega, by omega⟩, by omega, by omega⟩
    · exact goodRecs_I hl (by omega) h4 x hx

structure GoodB (b : Batch) : Prop where
  base : 0 ≤ b.base ∧ b.base ≤ 1099511627776
  prod : 0 ≤ b.prod ∧ b.prod ≤ 1099511627776
  seq : 0 ≤ b.seq ∧ b.seq ≤ 1099511627776
  time : 0 ≤ b.time ∧ b.time ≤ 1099511627776
  count : 1 ≤ b.count ∧ b.count ≤ 8
  fin : b.base + b.count ≤ 1099511627776
  len : (b.recs.length : Int) ≤ b.count
  recs : goodRecs (b.base + b.count) b.base b.recs = true
theorem goodB_iff (b : Batch) : goodB b = true ↔ GoodB b := by
  constructor
  · intro h
    simp only [goodB, isNumB, Bool.and_eq_true, decide_eq_true_eq] at h
    obtain ⟨h1, h2, h3, h4, h5, h6, h7, h8, h9⟩ := h
    exact ⟨h1, h2, h3, h4, ⟨h5, h6⟩, by omega, h8, h9⟩
  · rintro ⟨h1, h2, h3, h4, h5, h6, h7, h8⟩
    simp only [goodB, isNumB, Bool.and_eq_true, decide_eq_true_eq]
    exact ⟨h1, h2, h3, h4, h5.1, h5.2, by omega, h7, h8⟩
theorem GoodB.recI {b : Batch} (h : GoodB b) : ∀ x ∈ b.recs, RecI x := goodRecs_I h.fin h.base.1 h.recs

theorem decB_iff (s : List UInt8) (b : Batch) : decB s = some b ↔ goodB b = true ∧ s = encB b := by
  constructor
  · intro h
    unfold decB at h
    split at h
    · rename_i b' st hr
      split at h
      · rename_i hc
        simp only [Option.some.injEq] at h
        subst h
        refine ⟨hc.2, ?_⟩
        obtain ⟨hd, -⟩ := hc
        unfold rdB at hr
        rw [Option.map_eq_some_iff] at hr
        obtain ⟨⟨l, st1⟩, h1, h2⟩ := hr
        simp only [Prod.mk.injEq] at h2
        obtain ⟨rfl, rfl⟩ := h2
        unfold rdD at hd
        simp only [Bool.and_eq_true, Bool.not_eq_true', List.isEmpty_iff] at hd
        obtain ⟨hb, he⟩ := hd
        obtain ⟨a1, e1⟩ := rdS_sound hb
        obtain ⟨a2, l', e2, e3⟩ := rdRs_sound _ _ _ _ _ h1 a1
        obtain ⟨a3, -, e4⟩ := rdI_sound a2
        obtain ⟨a4, -, e5⟩ := rdI_sound a3
        obtain ⟨a5, -, e6⟩ := rdI_sound a4
        obtain ⟨a6, -, e7⟩ := rdI_sound a5
        obtain ⟨a7, -, e8⟩ := rdI_sound a6
        obtain ⟨a8, e9⟩ := rdS_sound a7
        simp only [List.nil_append] at e2
        subst e2
        rw [he] at e1
        rw [e1] at e3
        change s = _ at e9
        change (rd5 (rdS 108 (s, false))).2.1 = _ at e3
        simp only [rd5] at e3 ⊢
        refine e9.trans ?_
        rw [e8, e7, e6, e5, e4, e3]
        simp [encB]
      · cases h
    · cases h
  · rintro ⟨hg, rfl⟩
    have G := (goodB_iff b).1 hg
    have q1 : rdS 108 (encB b, false) = (encI b.base ++ (encI b.count ++ (encI b.prod ++ (encI b.seq ++ (encI b.time ++ (b.recs.flatMap encR ++ [101]))))), false) := rdS_enc _ _
    have i1 : I64 b.base := by have := G.base; exact ⟨by omega, by omega⟩
    have i2 : I64 b.count := by have := G.count; exact ⟨by omega, by omega⟩
    have i3 : I64 b.prod := by have := G.prod; exact ⟨by omega, by omega⟩
    have i4 : I64 b.seq := by have := G.seq; exact ⟨by omega, by omega⟩
    have i5 : I64 b.time := by have := G.time; exact ⟨by omega, by omega⟩
    have q2 : rd5 (encI b.base ++ (encI b.count ++ (encI b.prod ++ (encI b.seq ++ (encI b.time ++ (b.recs.flatMap encR ++ [101]))))), false) = ((b.base, b.count, b.prod, b.seq, b.time), (b.recs.flatMap encR ++ [101], false)) := by
      unfold rd5
      rw [rdI_enc i1]
      simp only
      rw [rdI_enc i2]
      simp only
      rw [rdI_enc i3]
      simp only
      rw [rdI_enc i4]
      simp only
      rw [rdI_enc i5]
    have hf := flat_le encR (fun a => by simp [encR]) b.recs
    have hlen := G.len
    have hcn := G.count
    have q3 : rdRs (fuel (b.recs.flatMap encR ++ [101], false)) (b.recs.flatMap encR ++ [101], false) [] = some (b.recs, ([101], false)) := by
      rw [rdRs_enc [] b.recs _ [] G.recI (by simp only [fuel, Bool.false_eq_true, if_false, List.length_append]; omega) (by simp; omega)]
      simp
    have q4 : rdB (encB b) = some (b, ([], false)) := by
      unfold rdB
      rw [q1, q2]
      simp only
      rw [q3]
      rfl
    unfold decB
    rw [q4]
    simp only
    rw [if_pos ⟨rfl, hg⟩]

theorem encB_inj {a b : Batch} (ha : goodB a = true) (hb : goodB b = true) (h : encB a = encB b) : a = b := by
  have x := (decB_iff (encB a) a).2 ⟨ha, rfl⟩
  have y := (decB_iff (encB a) b).2 ⟨hb, h⟩
  rw [x] at y
  exact Option.some.inj y
end Go.Proofs.YtcpaaleogmiamaaGreatDoor
namespace Go.Proofs.YtcpaaleogmiamaaGreatDoor
open Go.RowKit

/-- A segment: its first offset, its batches. -/
structure Sg where
  base : Int
  list : List Batch

def sgB (l : List Batch) : List UInt8 := l.flatMap (fun b => frameB (encB b))
/-- Where a list of batches ends that begins at n. -/
def endL : Int → List Batch → Int
  | n, [] => n
  | _, b :: l => endL (b.base + b.count) l
def Chained : Int → List Batch → Prop
  | _, [] => True
  | n, b :: l => goodB b = true ∧ b.base = n ∧ Chained (b.base + b.count) l

theorem endL_snoc (b : Batch) : ∀ (l : List Batch) (n : Int), endL n (l ++ [b]) = b.base + b.count
  | [], _ => rfl
  | a :: l, n => by rw [List.cons_append, endL, endL_snoc b l]
theorem endL_append (m : List Batch) : ∀ (l : List Batch) (n : Int), endL n (l ++ m) = endL (endL n l) m
  | [], _ => rfl
  | a :: l, n => by rw [List.cons_append, endL, endL_append m l, endL]
theorem Chained.append {m : List Batch} : ∀ {l : List Batch} {n : Int}, Chained n l → Chained (endL n l) m → Chained n (l ++ m)
  | [], _, _, h => h
  | _ :: _, _, h, h' => ⟨h.1, h.2.1, Chained.append h.2.2 h'⟩
theorem Chained.left {m : List Batch} : ∀ {l : List Batch} {n : Int}, Chained n (l ++ m) → Chained n l
  | [], _, _ => trivial
  | b :: l, _, h => ⟨h.1, h.2.1, Chained.left (l := l) (m := m) (by exact h.2.2)⟩
theorem Chained.right {m : List Batch} : ∀ {l : List Batch} {n : Int}, Chained n (l ++ m) → Chained (endL n l) m
  | [], _, h => h
  | b :: l, _, h => Chained.right (l := l) (n := b.base + b.count) (by exact h.2.2)
theorem Chained.good : ∀ {l : List Batch} {n : Int}, Chained n l → ∀ b ∈ l, goodB b = true
  | _ :: _, _, h, b, hb => by
    rcases List.mem_cons.1 hb with rfl | hb
    · exact h.1
    · exact Chained.good h.2.2 b hb

theorem encI_len {n : Int} (h : I64 n) : (encI n).length ≤ 23 := by
  have := Lib.itoa_length_le n h.1 h.2
  simp only [encI, List.length_cons, List.length_append, List.length_nil]
  omega
theorem encX_len {t : List UInt8} (h : t.length ≤ 64) : (encX t).length ≤ 86 := by
  have := Lib.itoa_length_le (t.length : Int) (by omega) (by omega)
  simp only [encX, List.length_cons, List.length_append]
  omega
theorem encR_len {x : Rec} (h : RecI x) : (encR x).length ≤ 220 := by
  obtain ⟨h1, h2, h3⟩ := h
  have a := encI_len h1
  have b := encX_len (t := x.kB) (by omega)
  have c := encX_len (t := x.vB) (by omega)
  have d := encI_len (i64_flag x.gone)
  simp only [encR, List.length_cons, List.length_append, List.length_nil]
  omega
theorem flat_len_le {α : Type} (enc : α → List UInt8) (K : Nat) : ∀ l : List α, (∀ a ∈ l, (enc a).length ≤ K) → (l.flatMap enc).length ≤ K * l.length
  | [], _ => by simp
  | a :: l, h => by
    have h1 := flat_len_le enc K l (fun x hx => h x (by simp [hx]))
    have h2 := h a (by simp)
    simp only [List.flatMap_cons, List.length_append, List.length_cons, Nat.mul_add, Nat.mul_one]
    omega
theorem encB_len {b : Batch} (h : goodB b = true) : (encB b).length ≤ 2000 := by
  have G := (goodB_iff b).1 h
  have h1 := encI_len (n := b.base) (by have := G.base; exact ⟨by omega, by omega⟩)
  have h2 := encI_len (n := b.count) (by have := G.count; exact ⟨by omega, by omega⟩)
  have h3 := encI_len (n := b.prod) (by have := G.prod; exact ⟨by omega, by omega⟩)
  have h4 := encI_len (n := b.seq) (by have := G.seq; exact ⟨by omega, by omega⟩)
  have h5 := encI_len (n := b.time) (by have := G.time; exact ⟨by omega, by omega⟩)
  have h6 := flat_len_le encR 220 b.recs (fun x hx => encR_len (G.recI x hx))
  have h7 : b.recs.length ≤ 8 := by have := G.len; have := G.count; omega
  have h8 : 220 * b.recs.length ≤ 1760 := by omega
  simp only [encB, List.length_cons, List.length_append, List.length_nil]
  omega
theorem frB_len {b : Batch} (h : goodB b = true) : (frameB (encB b)).length ≤ 2008 ∧ 8 ≤ (frameB (encB b)).length := by
  have := encB_len h
  rw [frameB_len]
  omega
theorem sgB_cons (b : Batch) (l : List Batch) : sgB (b :: l) = frameB (encB b) ++ sgB l := rfl
theorem sgB_append (l m : List Batch) : sgB (l ++ m) = sgB l ++ sgB m := by simp [sgB]
theorem sgB_snoc (l : List Batch) (b : Batch) : sgB (l ++ [b]) = sgB l ++ frameB (encB b) := by simp [sgB]
theorem sgB_ge : ∀ (l : List Batch), 8 * l.length ≤ (sgB l).length
  | [] => Nat.le_refl _
  | b :: l => by
    have := sgB_ge l
    rw [sgB_cons, List.length_append, frameB_len, List.length_cons]
    omega
theorem sgB_le : ∀ {l : List Batch}, (∀ b ∈ l, goodB b = true) → (sgB l).length ≤ 2008 * l.length
  | [], _ => by simp [sgB]
  | b :: l, h => by
    have h1 := sgB_le (l := l) (fun x hx => h x (by simp [hx]))
    have h2 := frB_len (h b (by simp))
    rw [sgB_cons, List.length_append, List.length_cons]
    omega

/-- What load takes off a file's bytes: the batches, how many bytes these have. -/
def loadF : Nat → List UInt8 → Nat → Int → List Batch → List Batch × Nat
  | 0, _, k, _, acc => (acc, k)
  | f + 1, s, k, n, acc =>
    if (nextV s k).2.2 ≠ 0 then (acc, k)
    else match decB (nextV s k).1 with
      | none => (acc, k)
      | some b => if b.base ≠ n then (acc, k) else loadF f s (nextV s k).2.1 (b.base + b.count) (acc ++ [b])
def loadS (s : List UInt8) (n : Int) : List Batch × Nat := loadF (s.length + 1) s 0 n []

theorem loadF_frames : ∀ (l : List Batch) (n : Int) (A B : List UInt8) (f : Nat) (acc : List Batch), Chained n l → (nextV ((A ++ sgB l) ++ B) (A ++ sgB l).length).2.2 ≠ 0 →
    loadF (l.length + f + 1) (A ++ (sgB l ++ B)) A.length n acc = (acc ++ l, A.length + (sgB l).length)
  | [], n, A, B, f, acc, _, hB => by
    simp only [sgB, List.flatMap_nil, List.append_nil, List.nil_append, List.length_nil, Nat.add_zero] at hB ⊢
    simp only [loadF]
    rw [if_pos hB]
  | b :: l, n, A, B, f, acc, h, hB => by
    obtain ⟨h1, h2, h3⟩ := h
    have hle := encB_len h1
    have hnx : nextV (A ++ (sgB (b :: l) ++ B)) A.length = (encB b, A.length + (frameB (encB b)).length, 0) := by
      rw [sgB_cons, List.append_assoc]
      exact nextV_frame A (encB b) _ (by omega)
    have hd : decB (encB b) = some b := (decB_iff _ _).2 ⟨h1, rfl⟩
    have ih := loadF_frames l (b.base + b.count) (A ++ frameB (encB b)) B f (acc ++ [b]) h3 (by
      rw [sgB_cons] at hB
      simpa only [List.append_assoc] using hB)
    have e1 : (b :: l).length + f + 1 = (l.length + f + 1) + 1 := by simp only [List.length_cons]; omega
    have hun : ∀ (F : Nat) (s : List UInt8) (k m : Nat), nextV s k = (encB b, m, 0) → loadF (F + 1) s k n acc = loadF F s m (b.base + b.count) (acc ++ [b]) := by
      intro F s k m hs
      simp only [loadF]
      rw [hs]
      simp only [ne_eq, not_true_eq_false, if_false]
      rw [hd]
      simp only [h2, not_true_eq_false, if_false]
    rw [e1, hun _ _ _ _ hnx]
    have e2 : A ++ (sgB (b :: l) ++ B) = (A ++ frameB (encB b)) ++ (sgB l ++ B) := by rw [sgB_cons]; simp only [List.append_assoc]
    have e3 : A.length + (frameB (encB b)).length = (A ++ frameB (encB b)).length := by rw [List.length_append]
    rw [e2, e3, ih]
    simp only [Prod.mk.injEq, sgB_cons, List.length_append, List.append_assoc, List.cons_append, List.nil_append, true_and]
    omega

theorem loadS_frames {l : List Batch} {n : Int} {B : List UInt8} (h : Chained n l) (hB : (nextV (sgB l ++ B) (sgB l).length).2.2 ≠ 0) : loadS (sgB l ++ B) n = (l, (sgB l).length) := by
  have h1 := sgB_ge l
  have h2 := loadF_frames l n [] B ((sgB l ++ B).length - l.length) [] h (by simpa using hB)
  have h3 : l.length + ((sgB l ++ B).length - l.length) + 1 = (sgB l ++ B).length + 1 := by rw [List.length_append]; omega
  rw [h3] at h2
  simpa [loadS] using h2
theorem loadS_whole {l : List Batch} {n : Int} (h : Chained n l) : loadS (sgB l) n = (l, (sgB l).length) := by
  have := loadS_frames (B := []) h (by simpa using nextV_end (sgB l))
  simpa using this

/-- The bytes of a file that is torn: whole frames, and less than the next one. -/
theorem take_frames : ∀ (l : List Batch) (k : Nat), (∀ b ∈ l, goodB b = true) → ∃ j, j ≤ l.length ∧ ∃ B : List UInt8, (sgB l).take k = sgB (l.take j) ++ B ∧ (sgB (l.take j)).length ≤ k ∧ (j = l.length → B = []) ∧
      (∀ hj : j < l.length, ∃ g, B = (frameB (encB l[j])).take g ∧ g < (frameB (encB l[j])).length ∧ g = k - (sgB (l.take j)).length)
  | [], k, _ => ⟨0, Nat.le_refl _, [], by simp [sgB], by simp [sgB], fun _ => rfl, fun hj => absurd hj (Nat.not_lt_zero _)⟩
  | b :: l, k, hg => by
    by_cases h : k < (frameB (encB b)).length
    · refine ⟨0, Nat.zero_le _, (frameB (encB b)).take k, ?_, by simp [sgB], fun h0 => by simp at h0, fun hj => ⟨k, rfl, h, by simp [sgB]⟩⟩
      rw [sgB_cons, List.take_append_of_le_length (by omega)]
      rfl
    · obtain ⟨j, h1, B, h2, h3, h4, h5⟩ := take_frames l (k - (frameB (encB b)).length) (fun x hx => hg x (by simp [hx]))
      refine ⟨j + 1, by simpa using h1, B, ?_, ?_, fun e => h4 (by simpa using e), fun hj => ?_⟩
      · rw [sgB_cons, List.take_append, List.take_of_length_le (by omega), h2, List.take_succ_cons, sgB_cons, List.append_assoc]
      · rw [List.take_succ_cons, sgB_cons, List.length_append]; omega
      · obtain ⟨g, e1, e2, e3⟩ := h5 (by simpa using hj)
        refine ⟨g, by simpa using e1, by simpa using e2, ?_⟩
        rw [List.take_succ_cons, sgB_cons, List.length_append, e3]; omega

theorem loadS_torn {l : List Batch} {n : Int} (h : Chained n l) (k : Nat) : ∃ j, j ≤ l.length ∧ loadS ((sgB l).take k) n = (l.take j, (sgB (l.take j)).length) ∧ (sgB (l.take j)).length ≤ k ∧ ((sgB l).length ≤ k → j = l.length) ∧
    (∀ m, m ≤ l.length → (sgB (l.take m)).length ≤ k → m ≤ j) := by
  obtain ⟨j, h1, B, h2, h3, h4, h5⟩ := take_frames l k h.good
  have hc : Chained n (l.take j) := by
    have : Chained n (l.take j ++ l.drop j) := by rw [List.take_append_drop]; exact h
    exact this.left
  have hgt : ∀ hj : j < l.length, k < (sgB (l.take (j + 1))).length := by
    intro hj
    obtain ⟨g, e1, e2, e3⟩ := h5 hj
    have : l.take (j + 1) = l.take j ++ [l[j]] := by rw [List.take_add_one, List.getElem?_eq_getElem hj]; rfl
    rw [this, sgB_snoc, List.length_append]
    omega
  have hmono : ∀ a b, a ≤ b → (sgB (l.take a)).length ≤ (sgB (l.take b)).length := by
    intro a b hab
    have : l.take b = l.take a ++ (l.drop a).take (b - a) := by
      rw [← List.take_append_drop a (l.take b), List.take_take, Nat.min_eq_left hab, List.drop_take]
    rw [this, sgB_append, List.length_append]
    omega
  have hmax : ∀ m, m ≤ l.length → (sgB (l.take m)).length ≤ k → m ≤ j := by
    intro m hm hk
    by_cases hmj : m ≤ j
    · exact hmj
    · have hj : j < l.length := by omega
      have a := hgt hj
      have b := hmono (j + 1) m (by omega)
      omega
  refine ⟨j, h1, ?_, h3, fun hk => ?_, hmax⟩
  · rw [h2]
    refine loadS_frames hc ?_
    by_cases hj : j < l.length
    · obtain ⟨g, e1, e2, e3⟩ := h5 hj
      rw [e1]
      have := encB_len (h.good _ (List.getElem_mem hj))
      exact nextV_torn _ _ g e2 (by omega)
    · rw [h4 (by omega), List.append_nil]
      exact nextV_end _
  · have := hmax l.length (Nat.le_refl _) (by rw [List.take_length]; exact hk)
    omega
end Go.Proofs.YtcpaaleogmiamaaGreatDoor
namespace Go.Proofs.YtcpaaleogmiamaaGreatDoor
open Go.Lib

/-- A first offset's thirteen digits. -/
def pad13 (n : Nat) : List UInt8 := List.replicate (13 - (decDigits n).length) 48 ++ decDigits n
def fileN (pre : List UInt8) (n : Nat) : List UInt8 := pre ++ 46 :: pad13 n

theorem dval_zeros : ∀ (k : Nat), dval 0 (List.replicate k 48) = 0
  | 0 => rfl
  | k + 1 => by rw [List.replicate_succ, dval_cons]; simpa using dval_zeros k
theorem dval_pad (n : Nat) : dval 0 (pad13 n) = n := by rw [pad13, dval_append, dval_zeros, dval_digits]
theorem pow_digits : ∀ (k n : Nat), n < 10 ^ (k + 1) → (decDigits n).length ≤ k + 1
  | 0, n, h => by rw [decDigits, dif_pos (by simpa using h)]; simp
  | k + 1, n, h => by
    by_cases h1 : n < 10
    · rw [decDigits, dif_pos h1]; simp
    · rw [digits_big h1, List.length_append]
      have : n / 10 < 10 ^ (k + 1) := by
        rw [Nat.pow_succ] at h
        exact Nat.div_lt_of_lt_mul (by omega)
      have := pow_digits k (n / 10) this
      simp only [List.length_cons, List.length_nil]
      omega
theorem digits13 {n : Nat} (h : n ≤ 1099511627776) : (decDigits n).length ≤ 13 := pow_digits 12 n (by omega)
theorem pad13_len {n : Nat} (h : n ≤ 1099511627776) : (pad13 n).length = 13 := by
  have := digits13 h
  simp only [pad13, List.length_append, List.length_replicate]; omega
theorem pad13_dig (n : Nat) : ∀ c ∈ pad13 n, isDigB c = true := by
  intro c hc
  simp only [pad13, List.mem_append, List.mem_replicate] at hc
  rcases hc with ⟨-, rfl⟩ | hc
  · decide
  · exact digits_dig n c hc
theorem pad13_inj {a b : Nat} (h : pad13 a = pad13 b) : a = b := by rw [← dval_pad a, ← dval_pad b, h]
theorem fileN_inj {pre : List UInt8} {a b : Nat} (h : fileN pre a = fileN pre b) : a = b := by
  unfold fileN at h
  have := List.append_cancel_left h
  exact pad13_inj (List.cons.inj this).2
theorem fileN_len {pre : List UInt8} {n : Nat} (h : n ≤ 1099511627776) : (fileN pre n).length = pre.length + 14 := by
  simp only [fileN, List.length_append, List.length_cons, pad13_len h]

/-! ### Rows of digits rise as the numbers do -/
theorem dval_lt : ∀ (l m : List UInt8) (a b : Nat), l.length = m.length → (∀ c ∈ l, isDigB c = true) → (∀ c ∈ m, isDigB c = true) → a < b → dval a l < dval b m
  | [], [], a, b, _, _, _, h => h
  | x :: l, y :: m, a, b, hl, h1, h2, h => by
    rw [dval_cons, dval_cons]
    have hx := (isDigB_iff x).1 (h1 x (by simp))
    have hy := (isDigB_iff y).1 (h2 y (by simp))
    exact dval_lt l m _ _ (by simpa using hl) (fun c hc => h1 c (by simp [hc])) (fun c hc => h2 c (by simp [hc])) (by omega)
theorem digs_lt : ∀ (l m : List UInt8) (a : Nat), l.length = m.length → (∀ c ∈ l, isDigB c = true) → (∀ c ∈ m, isDigB c = true) → dval a l < dval a m → l < m
  | [], [], a, _, _, _, h => absurd h (Nat.lt_irrefl _)
  | x :: l, y :: m, a, hl, h1, h2, h => by
    rw [dval_cons, dval_cons] at h
    have hx := (isDigB_iff x).1 (h1 x (by simp))
    have hy := (isDigB_iff y).1 (h2 y (by simp))
    have h1' : ∀ c ∈ l, isDigB c = true := fun c hc => h1 c (by simp [hc])
    have h2' : ∀ c ∈ m, isDigB c = true := fun c hc => h2 c (by simp [hc])
    have hl' : l.length = m.length := by simpa using hl
    rw [List.cons_lt_cons_iff]
    by_cases hxy : x = y
    · subst hxy
      exact .inr ⟨rfl, digs_lt l m _ hl' h1' h2' h⟩
    · left
      have hne : x.toNat ≠ y.toNat := fun e => hxy (byte_ext e)
      rcases Nat.lt_or_ge x.toNat y.toNat with hlt | hge
      · exact UInt8.lt_iff_toNat_lt.2 hlt
      · exfalso
        have := dval_lt m l (a * 10 + (y.toNat - 48)) (a * 10 + (x.toNat - 48)) hl'.symm h2' h1' (by omega)
        omega
theorem pad13_lt {a b : Nat} (hb : b ≤ 1099511627776) (h : a < b) : pad13 a < pad13 b :=
  digs_lt _ _ 0 (by rw [pad13_len hb, pad13_len (by omega)]) (pad13_dig a) (pad13_dig b) (by rw [dval_pad, dval_pad]; exact h)
theorem append_lt : ∀ (p : List UInt8) {l m : List UInt8}, l < m → p ++ l < p ++ m
  | [], _, _, h => h
  | x :: p, _, _, h => by rw [List.cons_append, List.cons_append, List.cons_lt_cons_iff]; exact .inr ⟨rfl, append_lt p h⟩
theorem fileN_lt {pre : List UInt8} {a b : Nat} (hb : b ≤ 1099511627776) (h : a < b) : fileN pre a < fileN pre b := by
  unfold fileN
  apply append_lt
  rw [List.cons_lt_cons_iff]
  exact .inr ⟨rfl, pad13_lt hb h⟩

/-! ### What a name tells -/
def baseN (pre name : List UInt8) : Option Nat :=
  if hasPrefix name (pre ++ [46]) = true ∧ (trimPrefix name (pre ++ [46])).length = 13 ∧ (∀ c ∈ trimPrefix name (pre ++ [46]), isDigB c = true) ∧ dval 0 (trimPrefix name (pre ++ [46])) ≤ 1099511627776 then some (dval 0 (trimPrefix name (pre ++ [46]))) else none

theorem hasPrefix_self (p r : List UInt8) : hasPrefix (p ++ r) p = true := by
  unfold hasPrefix
  rw [List.isPrefixOf_iff_prefix]
  exact List.prefix_append p r
theorem trimPrefix_self (p r : List UInt8) : trimPrefix (p ++ r) p = r := by
  unfold trimPrefix
  rw [if_pos (hasPrefix_self p r)]
  simp
theorem baseN_file {pre : List UInt8} {n : Nat} (h : n ≤ 1099511627776) : baseN pre (fileN pre n) = some n := by
  have e : fileN pre n = (pre ++ [46]) ++ pad13 n := by simp [fileN]
  unfold baseN
  rw [e, trimPrefix_self, if_pos ⟨hasPrefix_self _ _, pad13_len h, pad13_dig n, by rw [dval_pad]; exact h⟩, dval_pad]
/-- A name that ends in other words than thirteen digits is no segment's. -/
theorem baseN_none {pre r : List UInt8} (h : r.length ≠ 13) : baseN pre (pre ++ 46 :: r) = none := by
  have e : pre ++ 46 :: r = (pre ++ [46]) ++ r := by simp
  unfold baseN
  rw [e, trimPrefix_self, if_neg (fun hc => h hc.2.1)]
theorem baseN_some {pre name : List UInt8} {n : Nat} (h : baseN pre name = some n) : n ≤ 1099511627776 ∧ name = fileN pre n := by
  unfold baseN at h
  split at h
  · rename_i hc
    obtain ⟨h1, h2, h3, h4⟩ := hc
    simp only [Option.some.injEq] at h
    subst h
    refine ⟨h4, ?_⟩
    have hn : name = (pre ++ [46]) ++ trimPrefix name (pre ++ [46]) := by
      unfold trimPrefix
      rw [if_pos h1]
      unfold hasPrefix at h1
      rw [List.isPrefixOf_iff_prefix] at h1
      obtain ⟨r, hr⟩ := h1
      rw [← hr]
      simp
    have hp : pad13 (dval 0 (trimPrefix name (pre ++ [46]))) = trimPrefix name (pre ++ [46]) := by
      generalize trimPrefix name (pre ++ [46]) = d at h2 h3 h4
      have a := pad13_len h4
      have b := dval_pad (dval 0 d)
      -- two rows of thirteen digits of one value are one
      have key : ∀ (l m : List UInt8), l.length = m.length → (∀ c ∈ l, isDigB c = true) → (∀ c ∈ m, isDigB c = true) → dval 0 l = dval 0 m → l = m := by
        intro l m hl h1 h2 he
        by_cases h : l = m
        · exact h
        · exfalso
          have tot : ∀ (l m : List UInt8) (a : Nat), l.length = m.length → (∀ c ∈ l, isDigB c = true) → (∀ c ∈ m, isDigB c = true) → dval a l = dval a m → l = m := by
            intro l
            induction l with
            | nil => intro m a hl _ _ _; cases m with
              | nil => rfl
              | cons => simp at hl
            | cons x l ih =>
              intro m a hl h1 h2 he
              cases m with
              | nil => simp at hl
              | cons y m =>
                have hx := (isDigB_iff x).1 (h1 x (by simp))
                have hy := (isDigB_iff y).1 (h2 y (by simp))
                have hl' : l.length = m.length := by simpa using hl
                have h1' : ∀ c ∈ l, isDigB c = true := fun c hc => h1 c (by simp [hc])
                have h2' : ∀ c ∈ m, isDigB c = true := fun c hc => h2 c (by simp [hc])
                rw [dval_cons, dval_cons] at he
                rcases Nat.lt_trichotomy x.toNat y.toNat with hlt | heq | hgt
                · have := dval_lt l m (a * 10 + (x.toNat - 48)) (a * 10 + (y.toNat - 48)) hl' h1' h2' (by omega)
                  omega
                · have e := byte_ext heq
                  subst e
                  rw [ih m _ hl' h1' h2' he]
                · have := dval_lt m l (a * 10 + (y.toNat - 48)) (a * 10 + (x.toNat - 48)) hl'.symm h2' h1' (by omega)
                  omega
          exact h (tot l m 0 hl h1 h2 he)
      exact key _ _ (by rw [a, h2]) (pad13_dig _) h3 b
    rw [fileN, hp]
    simpa using hn
  · cases h
end Go.Proofs.YtcpaaleogmiamaaGreatDoor
