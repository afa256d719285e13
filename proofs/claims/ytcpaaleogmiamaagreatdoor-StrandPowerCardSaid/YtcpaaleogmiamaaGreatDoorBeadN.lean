/- Plain Lean, no program in sight: a number's bytes, as the program reads them and as the document's answer does; both read the same. -/
import Derived.Lib.AtoiAllCases
import Derived.Lib.ItoaLen
import Derived.Lib.IndexMore
import Derived.Lib.CutLaws
namespace Go.Proofs.YtcpaaleogmiamaaGreatDoor
open Go.Lib

def I64 (n : Int) : Prop := -9223372036854775808 ≤ n ∧ n ≤ 9223372036854775807

/-- A number's bytes. -/
def encI (n : Int) : List UInt8 := 105 :: (itoa n ++ [101])

def isDigB (c : UInt8) : Bool := decide (48 ≤ c.toNat) && decide (c.toNat ≤ 57)

theorem isDigB_iff (c : UInt8) : isDigB c = true ↔ 48 ≤ c.toNat ∧ c.toNat ≤ 57 := by simp [isDigB]

def dstep (a : Nat) (c : UInt8) : Nat := a * 10 + (c.toNat - 48)
def dval (acc : Nat) (l : List UInt8) : Nat := l.foldl dstep acc

theorem dval_cons (a : Nat) (c : UInt8) (r : List UInt8) : dval a (c :: r) = dval (a * 10 + (c.toNat - 48)) r := by unfold dval; rw [List.foldl_cons]; unfold dstep; exact Eq.refl _
theorem dval_one (a : Nat) (c : UInt8) : dval a [c] = a * 10 + (c.toNat - 48) := by unfold dval; rw [List.foldl_cons, List.foldl_nil]; unfold dstep; exact Eq.refl _

theorem dval_append (l m : List UInt8) : ∀ acc, dval acc (l ++ m) = dval (dval acc l) m := by
  intro acc
  unfold dval
  rw [List.foldl_append]

theorem dval_ge (l : List UInt8) : ∀ acc, acc ≤ dval acc l := by
  induction l with
  | nil => intro acc; exact Nat.le_refl _
  | cons c r ih => intro acc; rw [dval_cons]; exact Nat.le_trans (by omega) (ih (acc * 10 + (c.toNat - 48)))

theorem digits_big {u : Nat} (h : ¬ u < 10) : decDigits u = decDigits (u / 10) ++ [UInt8.ofNat (48 + u % 10)] := by rw [decDigits, dif_neg h]

theorem dig_toNat {d : Nat} (h : d < 10) : (UInt8.ofNat (48 + d)).toNat = 48 + d := by
  simp only [UInt8.toNat_ofNat']
  omega

theorem byte_ext {a b : UInt8} (h : a.toNat = b.toNat) : a = b := UInt8.toNat_inj.1 h

theorem digits_dig (u : Nat) : ∀ c ∈ decDigits u, isDigB c = true := by
  induction u using Nat.strongRecOn with
  | _ u ih =>
    intro c hc
    by_cases h : u < 10
    · rw [decDigits_one h] at hc
      simp only [List.mem_singleton] at hc
      subst hc
      rw [isDigB_iff, dig_toNat h]; omega
    · rw [digits_big h, List.mem_append] at hc
      rcases hc with hc | hc
      · exact ih (u / 10) (by omega) c hc
      · simp only [List.mem_singleton] at hc
        subst hc
        rw [isDigB_iff, dig_toNat (Nat.mod_lt _ (by omega))]; omega

theorem digits_ne (u : Nat) : decDigits u ≠ [] := by
  intro h
  have := decDigits_length u
  rw [h] at this
  have h1 := nDigits_pos u
  simp at this
  omega

theorem dval_digits (u : Nat) : dval 0 (decDigits u) = u := by
  induction u using Nat.strongRecOn with
  | _ u ih =>
    by_cases h : u < 10
    · rw [decDigits_one h, dval_one, dig_toNat h]
      omega
    · rw [digits_big h, dval_append, ih (u / 10) (by omega), dval_one, dig_toNat (Nat.mod_lt u (by omega : 0 < 10))]
      omega

theorem digits_head (u : Nat) : (decDigits u).length > 1 → (decDigits u).head? ≠ some 48 := by
  induction u using Nat.strongRecOn with
  | _ u ih =>
    intro hl
    by_cases h : u < 10
    · rw [decDigits_one h] at hl; simp at hl
    · rw [digits_big h]
      by_cases h2 : u / 10 < 10
      · rw [decDigits_one h2]
        intro hh
        simp only [List.cons_append, List.head?_cons, Option.some.injEq] at hh
        have := congrArg UInt8.toNat hh
        rw [dig_toNat h2] at this
        have e : (48 : UInt8).toNat = 48 := rfl
        omega
      · have := ih (u / 10) (by omega) (by rw [digits_big h2]; have := List.length_pos_iff.2 (digits_ne (u / 10 / 10)); simp; omega)
        cases hd : decDigits (u / 10) with
        | nil => exact absurd hd (digits_ne _)
        | cons c r => rw [hd] at this; simpa using this

theorem digits_of : ∀ (n : Nat) (l : List UInt8), l.length = n → (∀ c ∈ l, isDigB c = true) → l ≠ [] → (l.length > 1 → l.head? ≠ some 48) → decDigits (dval 0 l) = l := by
  intro n
  induction n with
  | zero => intro l hl _ hne; exact absurd (List.length_eq_zero_iff.1 hl) hne
  | succ n ih =>
    intro l hl hd hne hz
    rcases List.eq_nil_or_concat l with h | ⟨m, c, h⟩
    · exact absurd h hne
    · rw [List.concat_eq_append] at h
      subst h
      have hc := (isDigB_iff c).1 (hd c (by simp))
      rw [dval_append]
      by_cases hm : m = []
      · subst hm
        rw [List.nil_append]
        change decDigits (dval 0 [c]) = _
        rw [dval_one, decDigits_one (by omega)]
        congr 1
        apply byte_ext
        rw [dig_toNat (by omega)]; omega
      · have hml : m.length = n := by simp at hl; omega
        have hm0 : 0 < m.length := List.length_pos_iff.2 hm
        have hhd : m.head? ≠ some 48 := by
          have := hz (by simp; omega)
          cases m with
          | nil => exact absurd rfl hm
          | cons a r => simpa using this
        have e := ih m hml (fun c hc => hd c (by simp [hc])) hm (fun _ => hhd)
        have h1 : 1 ≤ dval 0 m := by
          cases m with
          | nil => exact absurd rfl hm
          | cons a r =>
            have ha := (isDigB_iff a).1 (hd a (by simp))
            have hne48 : a.toNat ≠ 48 := fun hh => hhd (by simp only [List.head?_cons, Option.some.injEq]; exact byte_ext hh)
            have := dval_ge r (0 * 10 + (a.toNat - 48))
            rw [dval_cons]
            omega
        rw [dval_one, digits_big (by omega)]
        have e1 : (dval 0 m * 10 + (c.toNat - 48)) / 10 = dval 0 m := by omega
        have e2 : (dval 0 m * 10 + (c.toNat - 48)) % 10 = c.toNat - 48 := by omega
        rw [e1, e2, e]
        congr 2
        apply byte_ext
        rw [dig_toNat (by omega)]; omega

/-! ### The program's reader of a numeral -/

theorem parse_dig (l : List UInt8) : ∀ acc, (∀ c ∈ l, isDigB c = true) → dval acc l < 18446744073709551616 → parseUint10 acc l = .ok (dval acc l) := by
  induction l with
  | nil => intro acc _ _; rfl
  | cons c r ih =>
    intro acc hd h
    have hc := (isDigB_iff c).1 (hd c (by simp))
    have hge := dval_ge r (acc * 10 + (c.toNat - 48))
    rw [dval_cons] at h ⊢
    rw [parseUint10, if_pos hc, if_neg (by omega), if_neg (by omega)]
    exact ih _ (fun c hc => hd c (by simp [hc])) h

theorem mag_digits {u : Nat} (h : u < 18446744073709551616) : parseMag (decDigits u) = .ok u := by
  rw [parseMag, if_neg (digits_ne u), parse_dig _ 0 (digits_dig u) (by rw [dval_digits]; exact h), dval_digits]

theorem atoi_itoa {n : Int} (h : I64 n) : atoiAll (itoa n) = .ok n := by
  obtain ⟨h0, h1⟩ := h
  by_cases hn : n < 0
  · rw [itoa, if_pos hn, atoiAll_minus, mag_digits (by omega)]
    simp only [signed]
    rw [if_neg (by omega)]
    congr 1
    omega
  · rw [itoa, if_neg hn]
    have hd := digits_dig n.toNat
    have hm : parseMag (decDigits n.toNat) = .ok n.toNat := mag_digits (by omega)
    cases hc : decDigits n.toNat with
    | nil => exact absurd hc (digits_ne _)
    | cons c r =>
      rw [hc] at hd hm
      have := (isDigB_iff c).1 (hd c (by simp))
      rw [atoiAll_plain c r (by omega) (by omega), hm]
      simp only [signless]
      rw [if_neg (by omega)]
      congr 1
      omega

theorem itoa_mem {n : Int} {c : UInt8} (h : c ∈ itoa n) : c = 45 ∨ isDigB c = true := by
  unfold itoa at h
  split at h
  · rcases List.mem_cons.1 h with h | h
    · exact .inl h
    · exact .inr (digits_dig _ c h)
  · exact .inr (digits_dig _ c h)

theorem itoa_no_e (n : Int) : (101 : UInt8) ∉ itoa n := by
  intro h
  rcases itoa_mem h with h | h
  · exact absurd h (by decide)
  · exact absurd h (by decide)

/-! ### strings.Cut at one byte -/

theorem occ_one (s : List UInt8) (c : UInt8) (i : Nat) : occAt s [c] i = true ↔ s[i]? = some c := by
  unfold occAt
  rw [← List.head?_drop]
  cases s.drop i with
  | nil => simp
  | cons a r =>
    simp only [List.isPrefixOf_cons_cons, List.isPrefixOf_nil_left, Bool.and_true, beq_iff_eq, List.head?_cons, Option.some.injEq]
    exact eq_comm

theorem cut_hit {a r : List UInt8} {c : UInt8} (h : c ∉ a) : cut (a ++ c :: r) [c] = (a, r, true) := by
  have hi : index (a ++ c :: r) [c] = (a.length : Int) := by
    refine index_first (by simp) ?_ ?_
    · rw [occ_one]; simp
    · intro j hj
      rw [Bool.eq_false_iff]
      intro hh
      rw [occ_one, List.getElem?_append_left hj] at hh
      exact h (List.mem_of_getElem? hh)
  unfold cut
  rw [hi, if_pos (by omega)]
  simp

theorem cut_split {s : List UInt8} {c : UInt8} (h : (cut s [c]).2.2 = true) : s = (cut s [c]).1 ++ c :: (cut s [c]).2.1 := by
  rcases index_spec s [c] with ⟨h1, -⟩ | ⟨i, h1, hi, ho, -⟩
  · unfold cut at h
    rw [h1, if_neg (by omega)] at h
    cases h
  · unfold cut
    rw [h1, if_pos (by omega)]
    simp only [Int.toNat_natCast]
    rw [occ_one] at ho
    have hlt : i < s.length := by
      rcases Nat.lt_or_ge i s.length with h | h
      · exact h
      · rw [List.getElem?_eq_none h] at ho; cases ho
    have e1 : s.drop i = s[i] :: s.drop (i + 1) := List.drop_eq_getElem_cons hlt
    rw [List.getElem?_eq_getElem hlt] at ho
    simp only [Option.some.injEq] at ho
    have e2 : (i + ([c] : List UInt8).length) = i + 1 := rfl
    rw [e2, ← ho, ← e1, List.take_append_drop]

/-! ### A number off bytes: the program's way -/

def bWord (s : List UInt8) : List UInt8 := trimPrefix (cut s [101]).1 [105]

def bInt (s : List UInt8) : Option (Int × List UInt8) :=
  if (cut s [101]).2.2 = true ∧ hasPrefix (cut s [101]).1 [105] = true then
    match atoiAll (bWord s) with
    | .ok n => if itoa n = bWord s then some (n, (cut s [101]).2.1) else none
    | _ => none
  else none

theorem hasPrefix_one {l : List UInt8} {c : UInt8} (h : hasPrefix l [c] = true) : l = c :: trimPrefix l [c] := by
  unfold trimPrefix
  rw [if_pos h]
  unfold hasPrefix at h
  cases l with
  | nil => simp at h
  | cons a r => simp at h; subst h; rfl

theorem bInt_iff (s : List UInt8) (n : Int) (r : List UInt8) : bInt s = some (n, r) ↔ I64 n ∧ s = encI n ++ r := by
  constructor
  · intro h
    unfold bInt at h
    split at h
    · rename_i hc
      obtain ⟨h1, h2⟩ := hc
      split at h
      · rename_i m hm
        split at h
        · rename_i he
          simp only [Option.some.injEq, Prod.mk.injEq] at h
          obtain ⟨rfl, rfl⟩ := h
          refine ⟨atoiAll_bounds hm, ?_⟩
          have e1 := cut_split h1
          have e2 := hasPrefix_one h2
          change _ = 105 :: bWord s at e2
          rw [← he] at e2
          rw [e2] at e1
          rw [encI]
          simpa using e1
        · cases h
      · cases h
    · cases h
  · rintro ⟨hn, rfl⟩
    have hne : (101 : UInt8) ∉ (105 :: itoa n) := by
      intro hh
      rcases List.mem_cons.1 hh with hh | hh
      · exact absurd hh (by decide)
      · exact itoa_no_e n hh
    have hs : encI n ++ r = (105 :: itoa n) ++ 101 :: r := by simp [encI]
    have hc := cut_hit (r := r) hne
    rw [← hs] at hc
    have hp : hasPrefix (105 :: itoa n) [105] = true := by simp [hasPrefix]
    have hw : bWord (encI n ++ r) = itoa n := by
      unfold bWord
      rw [hc]
      simp only [trimPrefix, if_pos hp]
      rfl
    unfold bInt
    rw [hw, hc, atoi_itoa hn]
    simp [hp]

/-! ### A number off bytes: the answer's way -/

def goNum : List UInt8 → Nat → Nat → Option (Nat × Nat × List UInt8)
  | [], k, u => some (k, u, [])
  | c :: r, k, u => if k < 20 ∧ isDigB c = true then (if (18446744073709551615 - (c.toNat - 48)) / 10 < u then none else goNum r (k + 1) (u * 10 + (c.toNat - 48))) else some (k, u, c :: r)

def startsDig : List UInt8 → Bool
  | [] => false
  | c :: _ => isDigB c

def refNum (l : List UInt8) : Nat × Nat :=
  match goNum l 0 0 with
  | none => (0, 0)
  | some (k, u, r) => if (1 < k ∧ l.head? = some 48) ∨ startsDig r = true then (0, 0) else (k, u)

theorem goNum_some : ∀ (l : List UInt8) (k u k' u' : Nat) (r : List UInt8), u < 18446744073709551616 → goNum l k u = some (k', u', r) →
    ∃ ds, l = ds ++ r ∧ (∀ c ∈ ds, isDigB c = true) ∧ k' = k + ds.length ∧ u' = dval u ds ∧ u' < 18446744073709551616
  | [], k, u, k', u', r, hu, h => by
    simp only [goNum, Option.some.injEq, Prod.mk.injEq] at h
    obtain ⟨rfl, rfl, rfl⟩ := h
    exact ⟨[], rfl, by simp, rfl, rfl, hu⟩
  | c :: l, k, u, k', u', r, hu, h => by
    rw [goNum] at h
    split at h
    · rename_i hc
      have hd := (isDigB_iff c).1 hc.2
      split at h
      · cases h
      · rename_i hb
        obtain ⟨ds, rfl, h1, h2, h3, h4⟩ := goNum_some l _ _ k' u' r (by omega) h
        refine ⟨c :: ds, rfl, ?_, by simp; omega, h3, h4⟩
        intro x hx
        rcases List.mem_cons.1 hx with rfl | hx
        · exact hc.2
        · exact h1 x hx
    · simp only [Option.some.injEq, Prod.mk.injEq] at h
      obtain ⟨rfl, rfl, rfl⟩ := h
      exact ⟨[], rfl, by simp, rfl, rfl, hu⟩

theorem goNum_digits : ∀ (ds r : List UInt8) (k u : Nat), (∀ c ∈ ds, isDigB c = true) → dval u ds < 18446744073709551616 → k + ds.length ≤ 20 → startsDig r = false →
    goNum (ds ++ r) k u = some (k + ds.length, dval u ds, r)
  | [], [], k, u, _, _, _, _ => rfl
  | [], c :: r, k, u, _, _, _, hr => by
    simp only [startsDig] at hr
    simp [goNum, hr]; rfl
  | c :: ds, r, k, u, hd, hu, hk, hr => by
    have hc := (isDigB_iff c).1 (hd c (by simp))
    have hge := dval_ge ds (u * 10 + (c.toNat - 48))
    rw [dval_cons] at hu ⊢
    simp only [List.length_cons] at hk ⊢
    rw [List.cons_append, goNum, if_pos ⟨by omega, hd c (by simp)⟩, if_neg (by omega), goNum_digits ds r _ _ (fun c hc => hd c (by simp [hc])) hu (by omega) hr]
    have : k + 1 + ds.length = k + (ds.length + 1) := by omega
    rw [this]

theorem digits_len {u : Nat} (h : u < 18446744073709551616) : (decDigits u).length ≤ 20 := by
  rw [decDigits_length]; exact nDigits_le20 u h

theorem refNum_of {u : Nat} {r : List UInt8} (h : u < 18446744073709551616) (hr : startsDig r = false) : refNum (decDigits u ++ r) = ((decDigits u).length, u) := by
  have hg := goNum_digits (decDigits u) r 0 0 (digits_dig u) (by rw [dval_digits]; exact h) (by have := digits_len h; omega) hr
  rw [dval_digits, Nat.zero_add] at hg
  unfold refNum
  rw [hg]
  simp only [hr, Bool.false_eq_true, or_false]
  rw [if_neg]
  rintro ⟨h1, h2⟩
  refine digits_head u h1 ?_
  cases hd : decDigits u with
  | nil => exact absurd hd (digits_ne _)
  | cons c l => rw [hd] at h2; simpa using h2

theorem refNum_pos {l : List UInt8} {k u : Nat} (h : refNum l = (k, u)) (hk : 0 < k) :
    ∃ r, l = decDigits u ++ r ∧ u < 18446744073709551616 ∧ k = (decDigits u).length ∧ startsDig r = false := by
  unfold refNum at h
  split at h
  · simp only [Prod.mk.injEq] at h; omega
  · rename_i k' u' r hg
    split at h
    · simp only [Prod.mk.injEq] at h; omega
    · rename_i hc
      simp only [Prod.mk.injEq] at h
      obtain ⟨rfl, rfl⟩ := h
      obtain ⟨ds, rfl, h1, h2, h3, h4⟩ := goNum_some l 0 0 k' u' r (by omega) hg
      simp only [not_or, Bool.not_eq_true] at hc
      obtain ⟨hz, hr⟩ := hc
      have hds : ds ≠ [] := by rintro rfl; simp at h2; omega
      have e := digits_of ds.length ds rfl h1 hds (by
        intro hl hh
        refine hz ⟨by omega, ?_⟩
        cases ds with
        | nil => exact absurd rfl hds
        | cons a t => simpa using hh)
      refine ⟨r, ?_, h4, ?_, hr⟩
      · rw [h3, e]
      · rw [h3, e]; omega

def isNeg (l : List UInt8) : Bool := decide (l.head? = some 45)

def magOf (l : List UInt8) : List UInt8 := if isNeg l = true then l.tail else l

def rInt (s : List UInt8) : Option (Int × List UInt8) :=
  if s.head? = some 105 ∧ 0 < (refNum (magOf s.tail)).1 ∧ ((magOf s.tail).drop (refNum (magOf s.tail)).1).head? = some 101 ∧
      (isNeg s.tail = false ∧ (refNum (magOf s.tail)).2 < 9223372036854775808 ∨ isNeg s.tail = true ∧ 0 < (refNum (magOf s.tail)).2 ∧ (refNum (magOf s.tail)).2 ≤ 9223372036854775808) then
    some (if isNeg s.tail = true then -((refNum (magOf s.tail)).2 : Int) else ((refNum (magOf s.tail)).2 : Int), (magOf s.tail).drop ((refNum (magOf s.tail)).1 + 1))
  else none

theorem cons_of_head {l : List UInt8} {c : UInt8} (h : l.head? = some c) : l = c :: l.tail := by
  cases l with
  | nil => simp at h
  | cons a r => simp at h; subst h; rfl

theorem rInt_iff (s : List UInt8) (n : Int) (r : List UInt8) : rInt s = some (n, r) ↔ I64 n ∧ s = encI n ++ r := by
  constructor
  · intro h
    unfold rInt at h
    split at h
    · rename_i hc
      obtain ⟨h1, h2, h3, h4⟩ := hc
      simp only [Option.some.injEq, Prod.mk.injEq] at h
      obtain ⟨hn, hr⟩ := h
      obtain ⟨t, e1, e2, e3, -⟩ := refNum_pos (l := magOf s.tail) (k := (refNum (magOf s.tail)).1) (u := (refNum (magOf s.tail)).2) rfl h2
      have es := cons_of_head h1
      generalize hu : (refNum (magOf s.tail)).2 = u at *
      generalize hk : (refNum (magOf s.tail)).1 = k at *
      have et : (magOf s.tail).drop k = t := by rw [e1, e3]; simp
      rw [et] at h3
      have ett := cons_of_head h3
      have er : r = t.tail := by
        rw [← hr, ← List.drop_drop, et]
        simp
      by_cases hg : isNeg s.tail = true
      · rw [if_pos hg] at hn
        have em : magOf s.tail = s.tail.tail := by simp [magOf, hg]
        have e45 := cons_of_head (of_decide_eq_true hg)
        refine ⟨⟨by rcases h4 with h | h <;> omega, by omega⟩, ?_⟩
        have hit : itoa n = 45 :: decDigits u := by
          rcases h4 with ⟨h, -⟩ | ⟨-, h, h'⟩
          · rw [hg] at h; cases h
          · rw [itoa, if_pos (by omega)]
            have : n.natAbs = u := by omega
            rw [this]
        rw [es, e45, ← em, e1, ett, er, encI, hit]
        simp
      · have hg' : isNeg s.tail = false := by simpa using hg
        rw [if_neg hg] at hn
        have em : magOf s.tail = s.tail := by simp [magOf, hg']
        have hb : u < 9223372036854775808 := by
          rcases h4 with h | h
          · exact h.2
          · exact absurd h.1 hg
        refine ⟨⟨by omega, by omega⟩, ?_⟩
        have hit : itoa n = decDigits u := by
          rw [itoa, if_neg (by omega)]
          have : n.toNat = u := by omega
          rw [this]
        rw [es, ← em, e1, ett, er, encI, hit]
        simp
    · cases h
  · rintro ⟨⟨h0, h1⟩, rfl⟩
    have hnd : startsDig (101 :: r) = false := by show isDigB 101 = false; decide
    by_cases hn : n < 0
    · have hit : itoa n = 45 :: decDigits n.natAbs := by rw [itoa, if_pos hn]
      have es : (encI n ++ r).tail = 45 :: (decDigits n.natAbs ++ 101 :: r) := by simp [encI, hit]
      have hg : isNeg (encI n ++ r).tail = true := by rw [es]; rfl
      have em : magOf (encI n ++ r).tail = decDigits n.natAbs ++ 101 :: r := by simp only [magOf, hg, if_true]; rw [es]; rfl
      have hR := refNum_of (u := n.natAbs) (r := 101 :: r) (by omega) hnd
      have hl := List.length_pos_iff.2 (digits_ne n.natAbs)
      unfold rInt
      rw [em, hR, hg]
      simp only [List.drop_left]
      rw [if_pos ⟨by simp [encI], hl, by simp, .inr ⟨by simp, by omega, by omega⟩⟩]
      rw [← List.drop_drop]
      simp only [List.drop_left, if_true, List.drop_succ_cons, List.drop_zero]
      have : (-(n.natAbs : Int)) = n := by omega
      rw [this]
    · have hit : itoa n = decDigits n.toNat := by rw [itoa, if_neg hn]
      have es : (encI n ++ r).tail = decDigits n.toNat ++ 101 :: r := by simp [encI, hit]
      have hg : isNeg (encI n ++ r).tail = false := by
        rw [es]
        cases hd : decDigits n.toNat with
        | nil => exact absurd hd (digits_ne _)
        | cons c l =>
          have hc := digits_dig n.toNat c (by rw [hd]; simp)
          rw [isDigB_iff] at hc
          simp only [isNeg, List.cons_append, List.head?_cons, Option.some.injEq, decide_eq_false_iff_not]
          rintro rfl
          have e : (45 : UInt8).toNat = 45 := rfl
          omega
      have em : magOf (encI n ++ r).tail = decDigits n.toNat ++ 101 :: r := by simp only [magOf, hg]; rw [if_neg (by decide), es]
      have hR := refNum_of (u := n.toNat) (r := 101 :: r) (by omega) hnd
      have hl := List.length_pos_iff.2 (digits_ne n.toNat)
      unfold rInt
      rw [em, hR, hg]
      simp only [List.drop_left]
      rw [if_pos ⟨by simp [encI], hl, by simp, .inl ⟨by simp, by omega⟩⟩]
      rw [← List.drop_drop]
      simp only [List.drop_left, Bool.false_eq_true, if_false, List.drop_succ_cons, List.drop_zero]
      have : ((n.toNat : Nat) : Int) = n := by omega
      rw [this]

theorem rInt_eq (s : List UInt8) : rInt s = bInt s := by
  cases h : bInt s with
  | none =>
    cases h' : rInt s with
    | none => rfl
    | some p =>
      obtain ⟨n, r⟩ := p
      rw [rInt_iff, ← bInt_iff, h] at h'
      cases h'
  | some p =>
    obtain ⟨n, r⟩ := p
    rw [rInt_iff, ← bInt_iff]
    exact h
end Go.Proofs.YtcpaaleogmiamaaGreatDoor
