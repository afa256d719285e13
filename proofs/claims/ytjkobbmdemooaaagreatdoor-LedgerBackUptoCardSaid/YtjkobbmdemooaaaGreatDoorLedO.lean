/- The plain law behind LedgerOnce: what a ledger remembers of batches that came in turn. -/
import Derived.Test.YtjkobbmdemooaaaGreatDoorLedA
namespace Go.Proofs.YtjkobbmdemooaaaGreatDoor

def mkRow (l : List Int) : List Slot := l.mapIdx fun j b => ⟨(j : Int), b, b + 1⟩

theorem mkRow_length (l : List Int) : (mkRow l).length = l.length := by simp [mkRow]
theorem mkRow_get (l : List Int) (i : Nat) (h : i < l.length) : (mkRow l)[i]'(by simpa [mkRow] using h) = ⟨(i : Int), l[i], l[i] + 1⟩ := by simp [mkRow]
theorem mkRow_snoc (l : List Int) (b : Int) : mkRow (l ++ [b]) = mkRow l ++ [⟨(l.length : Int), b, b + 1⟩] := by simp [mkRow, List.mapIdx_append]

theorem last5_length (l : List Slot) : (last5 l).length = min l.length 5 := by simp [last5]; omega
theorem last5_get (l : List Slot) (i : Nat) (h : i < (last5 l).length) : (last5 l)[i] = l[l.length - 5 + i]'(by rw [last5_length] at h; omega) := by
  simp [last5]
theorem last5_last5 (l : List Slot) (x : Slot) : last5 (last5 l ++ [x]) = last5 (l ++ [x]) := by
  apply List.ext_getElem
  · simp only [last5_length, List.length_append, List.length_cons, List.length_nil]; omega
  · intro i h1 h2
    rw [last5_get, last5_get]
    have hl := last5_length l
    have h3 : i < min (l.length + 1) 5 := by rw [last5_length] at h2; simpa using h2
    simp only [List.length_append, List.length_cons, List.length_nil, hl]
    by_cases c : l.length - 5 + (min l.length 5 + (0 + 1) - 5 + i) < l.length
    · rw [List.getElem_append_left (by rw [hl]; omega), List.getElem_append_left (by omega), last5_get]
      congr 1; omega
    · rw [List.getElem_append_right (by rw [hl]; omega), List.getElem_append_right (by omega)]
      congr 1; rw [hl]; omega

theorem rowOf_putL (L : List (Int × List Slot)) (k q : Int) (l : List Slot) : rowOf (putL L k l) q = if k = q then l else rowOf L q := by
  induction L with
  | nil =>
    by_cases e : k = q
    · subst e; simp [putL, rowOf]
    · have e2 : (k == q) = false := by simpa using e
      simp [putL, rowOf, e, e2]
  | cons p L ih =>
    unfold putL
    by_cases e1 : p.1 = k
    · have e1' : (p.1 == k) = true := by simpa using e1
      rw [if_pos e1']
      by_cases e : k = q
      · subst e; simp [rowOf]
      · have e2 : (k == q) = false := by simpa using e
        have e3 : (p.1 == q) = false := by rw [e1]; exact e2
        simp [rowOf, e, e2, e3]
    · have e1' : (p.1 == k) = false := by simpa using e1
      rw [if_neg (by simp [e1'])]
      by_cases e3 : p.1 = q
      · have e4 : (p.1 == q) = true := by simpa using e3
        have e5 : ¬ k = q := fun h => e1 (by omega)
        simp [rowOf, e4, e5]
      · have e4 : (p.1 == q) = false := by simpa using e3
        have : rowOf (p :: putL L k l) q = rowOf (putL L k l) q := by simp [rowOf, e4]
        rw [this, ih]
        have : rowOf (p :: L) q = rowOf L q := by simp [rowOf, e4]
        rw [this]

/-- What Check answers of a row of batches that came in turn. -/
theorem checkS_mkRow (l : List Int) (p s : Nat) (hp : p ≤ 1000) (hs : s ≤ 1000) :
    checkS (last5 (mkRow l)) p s =
      if s = l.length then (Slot.zero, 0) else if l.length < s then (Slot.zero, 20) else if s + 5 < l.length then (Slot.zero, 21)
      else (⟨(s : Int), l.getD s 0, l.getD s 0 + 1⟩, 13) := by
  have hp' : isNumB p = true := by simp [isNumB]; omega
  have hs' : isNumB s = true := by simp [isNumB]; omega
  have hlen := last5_length (mkRow l)
  rw [mkRow_length] at hlen
  by_cases h0 : l = []
  · subst h0
    have : last5 (mkRow []) = [] := rfl
    rw [this]
    simp only [checkS, hp', hs', Bool.and_self, if_true, List.length_nil]
    by_cases e : s = 0
    · subst e; rfl
    · have : ¬ ((s : Int) = 0) := by omega
      have h2 : 0 < s := by omega
      simp [e, h2]
  · have hpos : 0 < l.length := List.length_pos_iff.2 h0
    have hpos' : 0 < (last5 (mkRow l)).length := by rw [hlen]; omega
    rw [checkS_row hp' hs' hpos']
    have hq : (last5 (mkRow l))[0].seq = ((l.length - 5 : Nat) : Int) := by
      rw [last5_get, mkRow_get _ _ (by rw [mkRow_length]; omega)]
      simp [mkRow_length]
    rw [hq, hlen]
    by_cases c1 : s = l.length
    · rw [if_pos c1, if_neg (by omega), if_neg (by omega), if_pos (by omega)]
    · rw [if_neg c1]
      by_cases c2 : l.length < s
      · rw [if_pos c2, if_neg (by omega), if_neg (by omega), if_neg (by omega)]
      · rw [if_neg c2]
        by_cases c3 : s + 5 < l.length
        · rw [if_pos c3, if_pos (by omega)]
        · rw [if_neg c3, if_neg (by omega), if_pos (by omega)]
          have e : ((s : Int) - ((l.length - 5 : Nat) : Int)).toNat = s - (l.length - 5) := by omega
          have hlt : s - (l.length - 5) < (last5 (mkRow l)).length := by rw [hlen]; omega
          rw [e, List.getD_eq_getElem?_getD, List.getElem?_eq_getElem hlt, Option.getD_some, last5_get, mkRow_get _ _ (by rw [mkRow_length]; omega)]
          have e2 : (mkRow l).length - 5 + (s - (l.length - 5)) = s := by rw [mkRow_length]; omega
          simp only [e2]
          have e3 : l.getD s 0 = l[s]'(by omega) := by simp [List.getD, (by omega : s < l.length)]
          rw [e3]

theorem goodB_bat (p s : Nat) (b : Int) (hp : p ≤ 1000) (hs : s ≤ 1000) (hb0 : 0 ≤ b) (hb1 : b ≤ 100000) : goodB (bat p s b) = true := by
  have h1 : isNumB p = true := by simp [isNumB]; omega
  have h2 : isNumB s = true := by simp [isNumB]; omega
  have h3 : isNumB b = true := by simp [isNumB]; omega
  have h4 : recOkB ⟨b, ByteArray.empty, ByteArray.empty, false⟩ = true := by simp [recOkB]
  have h5 : isNumB 0 = true := by decide
  unfold goodB bat
  dsimp only [goodRecs, List.length_cons, List.length_nil]
  rw [h1, h2, h3, h4, h5]
  simp only [Bool.true_and, Bool.and_eq_true, decide_eq_true_eq]
  repeat' constructor
  all_goals first | omega | (simp; omega) | simp

theorem lastFin_mkRow (l : List Int) : lastFin (last5 (mkRow l)) = (l.getLast?.map (· + 1)).getD 0 := by
  by_cases h0 : l = []
  · subst h0; rfl
  · have hpos : 0 < l.length := List.length_pos_iff.2 h0
    have hlen := last5_length (mkRow l)
    rw [mkRow_length] at hlen
    rw [lastFin_get (by rw [hlen]; omega), last5_get, mkRow_get _ _ (by rw [mkRow_length]; omega)]
    have e : (mkRow l).length - 5 + ((last5 (mkRow l)).length - 1) = l.length - 1 := by rw [mkRow_length, hlen]; omega
    simp only [e]
    rw [List.getLast?_eq_getElem?, List.getElem?_eq_getElem (by omega)]
    rfl

/-- A list of different numbers from 0 to n - 1 is no longer than n. -/
theorem nodup_le (n : Nat) : ∀ (l : List Int), l.Nodup → (∀ x ∈ l, 0 ≤ x ∧ x < n) → l.length ≤ n := by
  induction n with
  | zero => intro l _ h; cases l with
    | nil => simp
    | cons a l => have := h a (by simp); omega
  | succ n ih =>
    intro l hn h
    have h1 := ih (l.filter (· ≠ (n : Int))) (hn.filter _) (by
      intro x hx
      simp only [ne_eq, decide_not, List.mem_filter, Bool.not_eq_true', decide_eq_false_iff_not] at hx
      have := h x hx.1
      omega)
    have h2 : l.length ≤ (l.filter (· ≠ (n : Int))).length + 1 := by
      clear ih h h1
      induction l with
      | nil => simp
      | cons a l ih2 =>
        have hn' := List.nodup_cons.1 hn
        by_cases e : a = (n : Int)
        · subst e
          have : l.filter (· ≠ (n : Int)) = l := List.filter_eq_self.2 (by intro x hx; simp; rintro rfl; exact hn'.1 hx)
          rw [List.filter_cons, this]; simp
        · simp only [List.filter_cons, ne_eq, e, not_false_eq_true, decide_true, if_true, List.length_cons]
          have := ih2 hn'.2
          simp only [ne_eq] at this
          omega
    omega

structure OnceInv (L : List (Int × List Slot)) (bs : Nat → List Int) (e : Int) : Prop where
  rows : ∀ p : Nat, p < 4 → rowOf L p = last5 (mkRow (bs p))
  ends : ∀ p : Nat, p < 4 → ∀ b ∈ bs p, 0 ≤ b ∧ b + 1 ≤ e
  keys : ∀ x ∈ L, 0 ≤ x.1 ∧ x.1 < 4

def updf (bs : Nat → List Int) (p : Nat) (l : List Int) : Nat → List Int := fun q => if q = p then l else bs q

theorem once_start : OnceInv [] (fun _ => []) 0 := ⟨fun _ _ => rfl, fun _ _ b hb => by simp at hb, fun x hx => by simp at hx⟩

theorem once_other {L : List (Int × List Slot)} {bs : Nat → List Int} {e : Int} (h : OnceInv L bs e) {p s : Nat} (hp : p < 4) (hs : s < 40) (he0 : 0 ≤ e) (he1 : e ≤ 1000) (hne : s ≠ (bs p).length) :
    addS L (bat p s e) = (L, (checkS (rowOf L p) p s).2) := by
  have hg := goodB_bat p s e (by omega) (by omega) he0 (by omega)
  have hc : ¬ (checkS (rowOf L p) p s).2 = 0 := by
    rw [h.rows p hp, checkS_mkRow _ _ _ (by omega) (by omega), if_neg hne]
    split
    · simp
    · split <;> simp
  unfold addS
  rw [if_pos hg]
  exact if_neg hc

theorem once_next {L : List (Int × List Slot)} {bs : Nat → List Int} {e : Int} (h : OnceInv L bs e) (hn : (L.map (·.1)).Nodup) {p : Nat} (hp : p < 4) (hs : (bs p).length < 40) (he0 : 0 ≤ e) (he1 : e ≤ 1000) :
    ∃ L', addS L (bat p (bs p).length e) = (L', 0) ∧ OnceInv L' (updf bs p (bs p ++ [e])) (e + 1) := by
  have hg := goodB_bat p (bs p).length e (by omega) (by omega) he0 (by omega)
  have hr := h.rows p hp
  have hc : (checkS (rowOf L p) p (bs p).length).2 = 0 := by
    rw [hr, checkS_mkRow _ _ _ (by omega) (by omega), if_pos rfl]
  have hlen : L.length ≤ 4 := by
    have := nodup_le 4 (L.map (·.1)) hn (by
      intro x hx
      obtain ⟨y, hy, rfl⟩ := List.mem_map.1 hx
      have := h.keys y hy
      exact ⟨this.1, by omega⟩)
    simpa using this
  have hlate : ¬ (rowOf L (bat p (bs p).length e).prod ≠ [] ∧ e < lastFin (rowOf L p)) := by
    rintro ⟨_, h2⟩
    rw [hr, lastFin_mkRow] at h2
    cases hl : (bs p).getLast? with
    | none => rw [hl] at h2; simp at h2; omega
    | some b =>
      rw [hl] at h2
      have := h.ends p hp b (List.mem_of_getLast? hl)
      simp at h2; omega
  refine ⟨putL L p (last5 (rowOf L p ++ [⟨((bs p).length : Int), e, e + 1⟩])), ?_, ?_, ?_, ?_⟩
  · unfold addS
    rw [if_pos hg]
    refine (if_pos hc).trans ?_
    refine (if_neg hlate).trans ?_
    exact if_neg (by rintro ⟨_, h2⟩; omega)
  · intro q hq
    rw [rowOf_putL, hr, last5_last5]
    unfold updf
    by_cases c : q = p
    · subst c; simp [mkRow_snoc]
    · have : ¬ ((p : Int) = (q : Int)) := by omega
      simp only [c, this, if_false]
      exact h.rows q hq
  · intro q hq b hb
    unfold updf at hb
    by_cases c : q = p
    · subst c
      simp only [if_true, List.mem_append, List.mem_singleton] at hb
      rcases hb with hb | rfl
      · have := h.ends q hq b hb; omega
      · omega
    · rw [if_neg c] at hb
      have := h.ends q hq b hb; omega
  · intro x hx
    rcases putL_mem hx with rfl | hx
    · constructor <;> simp <;> omega
    · exact h.keys x hx
end Go.Proofs.YtjkobbmdemooaaaGreatDoor
