/- Plain facts of Flock: what is read of the records that are made; who owns; what a record changes. -/
import Derived.Test.YtdchjepahgecgaaGreatDoorMq31
import Derived.Test.YtdchjepahgecgaaGreatDoorMq35
import Derived.Test.YtdchjepahgecgaaGreatDoorMq36
namespace Go.Proofs.YtdchjepahgecgaaGreatDoor
open Go.RowKit Go.Lib

/-! what is read of a record that was made -/
theorem itoa_pos (n : Int) (h : 0 ≤ n) : itoa n ≠ [] := by
  intro e
  rw [itoa, if_neg (by omega)] at e
  exact digits_ne _ e

theorem rdM_encX (t r : List UInt8) : rdM (encX t ++ r, false) = true := by
  have h0 : itoa (t.length : Int) ≠ [] := itoa_pos _ (by omega)
  have h1 := itoa_no_e (t.length : Int)
  unfold rdM encX
  cases hc : itoa (t.length : Int) with
  | nil => exact absurd hc h0
  | cons a l =>
    rw [hc] at h1
    simp only [List.cons_append, List.isEmpty_cons, List.head?_cons, Bool.not_false, Bool.true_and, decide_eq_true_eq, ne_eq, Option.some.injEq]
    intro e
    exact h1 (by rw [e]; simp)

theorem rdMs_enc {ms : List (List UInt8)} (h : ∀ m ∈ ms, m.length ≤ 8) (r : List UInt8) : rdMs (ms.flatMap encX ++ 101 :: r, false) = (ms, (101 :: r, false)) := by
  unfold rdMs
  have hl := flat_le encX encX_pos ms
  rw [many_enc (enc := encX) (P := fun m => m.length ≤ 8) (fun a r ha => ⟨rdT_enc (by decide) ha r, rdM_encX a r⟩) r ms _ [] h (by show ms.length ≤ (if false = true then 0 else (ms.flatMap encX ++ 101 :: r).length + 1); rw [if_neg (by decide), List.length_append]; omega) (fun _ _ => rfl)]
  rfl

theorem read_turn {g : List UInt8} (hg : nameB g = true) {ms : List (List UInt8)} (hm : goodB ms = true) {gen parts : Int} (h1 : I64 gen) (h2 : 0 ≤ parts ∧ parts ≤ 4) : readP (116 :: g) (encTurn gen parts ms) false = (⟨116, g, gen, parts, ms, 0, 0, 0⟩, true) := by
  have hlen : ∀ m ∈ ms, m.length ≤ 8 := by
    simp only [goodB, Bool.and_eq_true, decide_eq_true_eq, List.all_eq_true] at hm
    intro m hm'
    have := hm.1 m hm'
    simp only [nameB, Bool.and_eq_true, decide_eq_true_eq] at this
    exact this.2.1
  have hI : I64 parts := ⟨by omega, by omega⟩
  have e0 : encTurn gen parts ms = 108 :: (encI gen ++ (encI parts ++ 108 :: (ms.flatMap encX ++ 101 :: [101]))) := by
    simp [encTurn, List.flatMap_def]
  have e1 : rdS 108 (encTurn gen parts ms, false) = (encI gen ++ (encI parts ++ 108 :: (ms.flatMap encX ++ 101 :: [101])), false) := by rw [e0]; exact rdS_enc _ _
  have e2 : rdBody 116 g (encI gen ++ (encI parts ++ 108 :: (ms.flatMap encX ++ 101 :: [101])), false) = (⟨116, g, gen, parts, ms, 0, 0, 0⟩, true, ([101], false)) := by
    simp only [rdBody, if_true, rdTurn, rdI_enc h1, rdI_enc hI, rdS_enc, rdMs_enc hlen, hg, hm, Bool.true_and, decide_eq_true h2.1, decide_eq_true h2.2]
  have e3 : rdS 101 (([101], false) : RS) = ([], false) := rdS_enc _ _
  simp only [readP, Bool.false_eq_true, if_false, e1, e2, e3, rdD, Bool.not_false, List.isEmpty_nil, Bool.and_self, if_true]

theorem read_point {g : List UInt8} (hg : nameB g = true) {d off gen : Int} (hd : 0 ≤ d ∧ d ≤ 3) (ho : offB off = true) (h1 : I64 gen) : readP (99 :: (itoa d ++ g)) (encPoint off gen) false = (⟨99, g, gen, 0, [], d, off, 0⟩, true) := by
  have ho' := ho
  simp only [offB, Bool.and_eq_true, decide_eq_true_eq] at ho'
  have hI : I64 off := ⟨by omega, by omega⟩
  have hd1 : itoa d = [UInt8.ofNat (48 + d.toNat)] := by rw [itoa, if_neg (by omega), decDigits_one (by omega)]
  have hd2 : (UInt8.ofNat (48 + d.toNat)).toNat = 48 + d.toNat := dig_toNat (by omega)
  have hpd : partDig (UInt8.ofNat (48 + d.toNat)) = true := by simp only [partDig, hd2, Bool.and_eq_true, decide_eq_true_eq]; omega
  have e0 : encPoint off gen = 108 :: (encI off ++ (encI gen ++ [101])) := by simp [encPoint]
  have e1 : rdS 108 (encPoint off gen, false) = (encI off ++ (encI gen ++ [101]), false) := by rw [e0]; exact rdS_enc _ _
  have e2 : rdBody 99 (itoa d ++ g) (encI off ++ (encI gen ++ [101]), false) = (⟨99, g, gen, 0, [], d, off, 0⟩, true, ([101], false)) := by
    have e5 : (((UInt8.ofNat (48 + d.toNat)).toNat : Nat) : Int) - 48 = d := by rw [hd2]; omega
    unfold rdBody
    rw [if_neg (by decide), if_pos rfl, hd1]
    simp only [List.cons_append, List.nil_append, hpd, if_true, rdPoint, rdI_enc hI, rdI_enc h1, hg, ho, Bool.true_and, e5]
  have e3 : rdS 101 (([101], false) : RS) = ([], false) := rdS_enc _ _
  simp only [readP, Bool.false_eq_true, if_false, e1, e2, e3, rdD, Bool.not_false, List.isEmpty_nil, Bool.and_self, if_true]

theorem read_no {code : Int} (h : I64 code) : readP [110] (encNo code) false = (⟨110, [], 0, 0, [], 0, 0, code⟩, true) := by
  have e0 : encNo code = 108 :: (encI code ++ [101]) := by simp [encNo]
  have e1 : rdS 108 (encNo code, false) = (encI code ++ [101], false) := by rw [e0]; exact rdS_enc _ _
  have e2 : rdBody 110 [] (encI code ++ [101], false) = (⟨110, [], 0, 0, [], 0, 0, code⟩, true, ([101], false)) := by
    rw [rdBody, if_neg (by decide), if_neg (by decide), if_pos rfl]
    simp only [rdNo, rdI_enc h, List.isEmpty_nil]
  have e3 : rdS 101 (([101], false) : RS) = ([], false) := rdS_enc _ _
  simp only [readP, Bool.false_eq_true, if_false, e1, e2, e3, rdD, Bool.not_false, List.isEmpty_nil, Bool.and_self, if_true]

/-! who owns -/
def ownN (n m : Int) : Nat → Nat
  | 0 => 0
  | k + 1 => ownN n m k + shareN n m k
theorem owners_len (n m : Int) (l : List (List UInt8)) : ∀ k, (ownersTo n m l k).length = ownN n m k
  | 0 => rfl
  | k + 1 => by simp [ownersTo, ownN, owners_len n m l k]
theorem owners_at (n m : Int) (l : List (List UInt8)) : ∀ k i (h : i < (ownersTo n m l k).length), ((ownersTo n m l k)[i]).1 = (i : Int) + 1
  | 0, i, h => absurd h (Nat.not_lt_zero i)
  | k + 1, i, h => by
    simp only [ownersTo] at h ⊢
    by_cases hi : i < (ownersTo n m l k).length
    · rw [List.getElem_append_left hi]; exact owners_at n m l k i hi
    · rw [List.getElem_append_right (by omega)]
      simp only [List.getElem_map, List.getElem_range]
      omega
theorem owners_mem (n m : Int) (l : List (List UInt8)) : ∀ k, k ≤ l.length → ∀ o ∈ ownersTo n m l k, o.2 ∈ l
  | 0, _, o, h => by simp [ownersTo] at h
  | k + 1, hk, o, h => by
    rw [ownersTo] at h
    rcases List.mem_append.1 h with h | h
    · exact owners_mem n m l k (by omega) o h
    · obtain ⟨j, -, rfl⟩ := List.mem_map.1 h
      simp only [List.getD, List.getElem?_eq_getElem (show k < l.length by omega), Option.getD_some]
      exact List.getElem_mem _
theorem ownN_all : ∀ n ∈ [(-1 : Int), 0, 1, 2, 3], ∀ m ∈ [1, 2, 3, 4], ownN n ((m : Nat) : Int) m = n.toNat := by decide

theorem assign_len {parts : Int} {l : List (List UInt8)} (h : assignOk parts l = true) : (assignP parts l).length = (parts - 1).toNat := by
  have h' := h
  simp only [assignOk, goodB, Bool.and_eq_true, decide_eq_true_eq] at h'
  unfold assignP
  rw [if_pos h, owners_len]
  have h1 := h'.1.2.2
  have h2 := h'.2.1
  have h3 := h'.2.2
  have hm : l.length ∈ [1, 2, 3, 4] := by simp only [List.mem_cons, List.not_mem_nil, or_false]; omega
  have hn : parts - 1 ∈ [(-1 : Int), 0, 1, 2, 3] := by simp only [List.mem_cons, List.not_mem_nil, or_false]; omega
  exact ownN_all _ hn _ hm

theorem owner_in {parts : Int} {l : List (List UInt8)} {p : Int} (h : (ownerP parts l p).2 = true) : 1 ≤ p ∧ p < parts ∧ parts ≤ 4 ∧ (ownerP parts l p).1 ∈ l := by
  cases hok : assignOk parts l with
  | false => rw [ownerP, assignP, if_neg (by rw [hok]; decide)] at h; simp at h
  | true =>
    have h' := hok
    simp only [assignOk, Bool.and_eq_true, decide_eq_true_eq] at h'
    have hal := assign_len hok
    unfold ownerP at h ⊢
    cases hf : (assignP parts l).find? (fun o => o.1 == p) with
    | none => rw [hf] at h; cases h
    | some o =>
      have h1 := List.find?_some hf
      have h2 := List.mem_of_find?_eq_some hf
      have h3 : o.1 = p := by simpa using h1
      have hmem : o.2 ∈ l := by
        have h4 := h2
        rw [assignP, if_pos hok] at h4
        exact owners_mem _ _ _ _ (Nat.le_refl _) o h4
      obtain ⟨i, hi, ho⟩ := List.mem_iff_getElem.1 h2
      have h5 : o.1 = (i : Int) + 1 := by
        rw [← ho]
        have hi2 := hi
        unfold assignP at hi2 ⊢
        simp only [hok, if_true] at hi2 ⊢
        exact owners_at _ _ _ _ i hi2
      refine ⟨by omega, by omega, by omega, hmem⟩

theorem owner_has {parts : Int} {l : List (List UInt8)} (hg : goodB l = true) (hl : l ≠ []) {p : Int} (h1 : 1 ≤ p) (h2 : p < parts) (h3 : parts ≤ 4) : (ownerP parts l p).2 = true := by
  have hok : assignOk parts l = true := by
    have : l.length ≠ 0 := by simpa using hl
    simp only [assignOk, hg, Bool.true_and, Bool.and_eq_true, decide_eq_true_eq]
    exact ⟨this, by omega, by omega⟩
  have hal := assign_len hok
  have hi : (p - 1).toNat < (assignP parts l).length := by omega
  have hat : ((assignP parts l)[(p - 1).toNat]).1 = p := by
    have hi2 := hi
    unfold assignP at hi2 ⊢
    simp only [hok, if_true] at hi2 ⊢
    rw [owners_at]; omega
  unfold ownerP
  cases hf : (assignP parts l).find? (fun o => o.1 == p) with
  | some o => rfl
  | none =>
    have h9 := List.find?_eq_none.1 hf _ (List.getElem_mem hi)
    exact absurd (show ((assignP parts l)[(p - 1).toNat].1 == p) = true by rw [hat]; simp) h9
end Go.Proofs.YtdchjepahgecgaaGreatDoor
