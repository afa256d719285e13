/- Plain facts of Flock: one request more. -/
import Derived.Test.YtdchjepahgecgaaGreatDoorMq37
namespace Go.Proofs.YtdchjepahgecgaaGreatDoor
open Go.RowKit Go.Lib

theorem up_ne {α κ : Type} [LT κ] {key : α → κ} (irr : ∀ a : κ, ¬ a < a) {L : List α} (h : Up key L) {i j : Nat} (hi : i < L.length) (hj : j < L.length) (he : key L[i] = key L[j]) : i = j := by
  refine Classical.byContradiction fun hne => ?_
  rcases Nat.lt_or_gt_of_ne hne with h1 | h1
  · have := List.pairwise_iff_getElem.1 h i j hi hj h1; rw [he] at this; exact irr _ this
  · have := List.pairwise_iff_getElem.1 h j i hj hi h1; rw [he] at this; exact irr _ this
theorem up_mem_eq {α κ : Type} [LT κ] {key : α → κ} (irr : ∀ a : κ, ¬ a < a) {L : List α} (h : Up key L) {x y : α} (hx : x ∈ L) (hy : y ∈ L) (he : key x = key y) : x = y := by
  obtain ⟨i, hi, rfl⟩ := List.mem_iff_getElem.1 hx
  obtain ⟨j, hj, rfl⟩ := List.mem_iff_getElem.1 hy
  have := up_ne irr h hi hj he
  subst this; rfl
theorem mem_setK {α κ : Type} [LT κ] {key : α → κ} (irr : ∀ a : κ, ¬ a < a) {L : List α} (h : Up key L) {k : Nat} (hk : k < L.length) {z : α} (hz : key L[k] = key z) (x : α) : x ∈ L.set k z ↔ x = z ∨ (x ∈ L ∧ key x ≠ key z) := by
  constructor
  · intro hx
    obtain ⟨i, hi, rfl⟩ := List.mem_iff_getElem.1 hx
    by_cases e : i = k
    · subst e; left; simp
    · right
      have hi2 : i < L.length := by simpa using hi
      rw [List.getElem_set_ne (fun e2 => e e2.symm)]
      exact ⟨List.getElem_mem _, fun e2 => e (up_ne irr h hi2 hk (by rw [hz]; exact e2))⟩
  · rintro (rfl | ⟨h1, h2⟩)
    · exact List.mem_iff_getElem.2 ⟨k, by simpa using hk, by simp⟩
    · obtain ⟨i, hi, rfl⟩ := List.mem_iff_getElem.1 h1
      have e : ¬ i = k := fun e => by subst e; exact h2 hz
      exact List.mem_iff_getElem.2 ⟨i, by simpa using hi, by rw [List.getElem_set_ne (fun e2 => e e2.symm)]⟩
theorem mem_insK {α κ : Type} [DecidableEq κ] {key : α → κ} {L : List α} {z : α} (hno : hasK key L (key z) = false) (k : Nat) (x : α) : x ∈ L.take k ++ z :: L.drop k ↔ x = z ∨ (x ∈ L ∧ key x ≠ key z) := by
  have hne : ∀ x ∈ L, key x ≠ key z := by
    intro x hx e
    have : hasK key L (key z) = true := by simp only [hasK, List.any_eq_true, decide_eq_true_eq]; exact ⟨x, hx, e⟩
    rw [hno] at this; cases this
  constructor
  · intro hx
    rcases List.mem_append.1 hx with h | h
    · have := List.mem_of_mem_take h; exact .inr ⟨this, hne x this⟩
    · rcases List.mem_cons.1 h with h | h
      · exact .inl h
      · have := List.mem_of_mem_drop h; exact .inr ⟨this, hne x this⟩
  · rintro (rfl | ⟨h1, -⟩)
    · simp
    · rw [← List.take_append_drop k L] at h1
      rcases List.mem_append.1 h1 with h | h
      · exact List.mem_append_left _ h
      · exact List.mem_append_right _ (List.mem_cons_of_mem _ h)
theorem hasK_iff {α κ : Type} [DecidableEq κ] {key : α → κ} {L : List α} {s : κ} : hasK key L s = true ↔ ∃ x ∈ L, key x = s := by simp [hasK]
theorem findK {α κ : Type} [LT κ] [DecidableEq κ] {key : α → κ} (irr : ∀ a : κ, ¬ a < a) {L : List α} (h : Up key L) {y : α} (hy : y ∈ L) : L.find? (fun x => decide (key x = key y)) = some y := by
  cases hf : L.find? (fun x => decide (key x = key y)) with
  | none => have := List.find?_eq_none.1 hf y hy; simp at this
  | some x =>
    have h1 := List.find?_some hf
    have h2 := List.mem_of_find?_eq_some hf
    rw [up_mem_eq irr h h2 hy (by simpa using h1)]
theorem findK_no {α κ : Type} [DecidableEq κ] {key : α → κ} {L : List α} {s : κ} (h : hasK key L s = false) : L.find? (fun x => decide (key x = s)) = none := by
  refine List.find?_eq_none.2 fun x hx => ?_
  simp only [hasK, List.any_eq_false] at h
  exact h x hx

theorem grp_mem {L : List Fk} (h : FkUp L) {y : Fk} (hy : y ∈ L) {s : List UInt8} (hs : y.name = s) : grp L s = y := by
  subst hs
  rw [grp, findK (key := Fk.name) txt_irrefl h hy]; rfl
theorem grp_no {L : List Fk} {s : List UInt8} (h : hasFk L s = false) : grp L s = ⟨[], 0, 0, [], []⟩ := by
  rw [grp, findK_no (key := Fk.name) h]; rfl
theorem the_mem {L : List Fk} (h : FkUp L) {y : Fk} (hy : y ∈ L) {s : List UInt8} (hs : y.name = s) : hasFk L s = true ∧ theF L s = y := by
  have hh : hasFk L s = true := hasK_iff.2 ⟨y, hy, hs⟩
  obtain ⟨hk, hkn⟩ := hasFk_at h hh
  refine ⟨hh, ?_⟩
  simp only [theF, hh, if_true, List.getD, List.getElem?_eq_getElem hk, Option.getD_some]
  exact up_mem_eq (key := Fk.name) txt_irrefl h (List.getElem_mem hk) hy (by rw [hkn, hs])
theorem the_no' {L : List Fk} {s : List UInt8} (h : hasFk L s = false) : theF L s = ⟨s, 0, 0, [], []⟩ := by simp [theF, h]
theorem off_mem {l : List (Int × Int)} (h : PtUp l) {y : Int × Int} (hy : y ∈ l) : offP l y.1 = y.2 := by
  rw [offP, findK (key := Prod.fst) int_irr h hy]
theorem off_no {l : List (Int × Int)} {s : Int} (h : hasPt l s = false) : offP l s = -1 := by
  rw [offP, findK_no (key := Prod.fst) h]
theorem mem_pointed {l : List (Int × Int)} (h : PtUp l) (p x : Int × Int) : x ∈ pointedP l p ↔ x = p ∨ (x ∈ l ∧ x.1 ≠ p.1) := by
  unfold pointedP
  split
  · rename_i hh
    obtain ⟨hk, hkp⟩ := hasPt_at h hh
    exact mem_setK (key := Prod.fst) int_irr h hk hkp x
  · rename_i hh
    exact mem_insK (key := Prod.fst) (by simpa using hh) _ x

/-- The groups are as they were, but for one. -/
def Chg (L M : List Fk) (z : Fk) : Prop := ∀ x, x ∈ M ↔ x = z ∨ (x ∈ L ∧ x.name ≠ z.name)

theorem app_turn {L : List Fk} (h : FkUp L) {q : Wd} (ht : turns L q = true) : Chg L (applyW L q) ⟨q.group, q.gen, q.parts, q.members, (theF L q.group).points⟩ := by
  intro x
  rw [applyW, if_pos ht]
  split
  · rename_i hh
    obtain ⟨hk, hkn⟩ := hasFk_at h hh
    have hf : theF L q.group = L[fkAt L q.group]'hk := by simp only [theF, hh, if_true, List.getD, List.getElem?_eq_getElem hk, Option.getD_some]
    have hn : (theF L q.group).name = q.group := by rw [hf, hkn]
    rw [hn]
    exact mem_setK (key := Fk.name) txt_irrefl h hk hkn x
  · rename_i hh
    have hh' : hasFk L q.group = false := by simpa using hh
    have e : (theF L q.group).points = [] := by rw [the_no' hh']
    rw [e]
    exact mem_insK (key := Fk.name) hh' _ x
theorem app_point {L : List Fk} (h : FkUp L) {q : Wd} (ht : turns L q = false) (hp : points L q = true) :
    Chg L (applyW L q) ⟨q.group, (theF L q.group).gen, (theF L q.group).parts, (theF L q.group).members, pointedP (theF L q.group).points (q.part, q.off)⟩ := by
  intro x
  rw [applyW, if_neg (by rw [ht]; decide), if_pos hp]
  simp only [points, Bool.and_eq_true] at hp
  obtain ⟨hk, hkn⟩ := hasFk_at h hp.2.1
  have hf : theF L q.group = L[fkAt L q.group]'hk := by simp only [theF, hp.2.1, if_true, List.getD, List.getElem?_eq_getElem hk, Option.getD_some]
  have hn : (theF L q.group).name = q.group := by rw [hf, hkn]
  rw [hn]
  exact mem_setK (key := Fk.name) txt_irrefl h hk hkn x

/-! a request -/
def noW (code : Int) : Wd := ⟨110, [], 0, 0, [], 0, 0, code⟩
def turnW (L : List Fk) (parts : Int) (g : List UInt8) (ms : List (List UInt8)) : Wd := ⟨116, g, IntKind.i64.wrap ((theF L g).gen + 1), clampP parts, ms, 0, 0, 0⟩
def pointW (q : Rq) : Wd := ⟨99, q.group, q.gen, 0, [], q.part, q.off, 0⟩
def leftM (l : List (List UInt8)) (m : List UInt8) : List (List UInt8) := l.eraseIdx (strAt l m)
def joinM (l : List (List UInt8)) (m : List UInt8) : List (List UInt8) := l.take (strAt l m) ++ m :: l.drop (strAt l m)
/-- What the record says that a request brings. -/
def decW (L : List Fk) (parts : Int) (q : Rq) : Wd :=
  if q.kind = 6 then (if mayCommit (theF L q.group) (hasFk L q.group) q = true then (if offB q.off = true then pointW q else noW 1) else noW 30)
  else if (q.kind ≠ 3 ∧ q.kind ≠ 4) ∨ (nameB q.group && nameB q.member) = false then noW 1
  else if q.kind = 4 then
    (if hasStr (theF L q.group).members q.member = false then noW 31 else turnW L parts q.group (leftM (theF L q.group).members q.member))
  else if hasStr (theF L q.group).members q.member = true then noW 0
  else if 4 ≤ (theF L q.group).members.length ∨ (hasFk L q.group = false ∧ 4 ≤ L.length) then noW 32
  else turnW L parts q.group (joinM (theF L q.group).members q.member)
def nextF (L : List Fk) (parts : Int) (q : Rq) : List Fk := applyW L (decW L parts q)

/-- Groups that requests made, so many at the most. -/
structure Inv (L : List Fk) (n : Nat) : Prop where
  ok : FksOk L
  names : ∀ y ∈ L, nameB y.name = true
  gens : ∀ y ∈ L, 0 ≤ y.gen ∧ y.gen ≤ n
  offs : ∀ y ∈ L, ∀ x ∈ y.points, 0 ≤ x.2
theorem Inv.nil (n : Nat) : Inv [] n := ⟨.nil, by simp, by simp, by simp⟩

theorem Inv.the {L : List Fk} {n : Nat} (h : Inv L n) (s : List UInt8) : (theF L s).name = s ∧ FkOk (theF L s) ∧ 0 ≤ (theF L s).gen ∧ (theF L s).gen ≤ n ∧ (∀ x ∈ (theF L s).points, 0 ≤ x.2) ∧ (hasFk L s = true → nameB s = true ∧ theF L s ∈ L) ∧ (hasFk L s = false → (theF L s).members = [] ∧ (theF L s).points = [] ∧ (theF L s).gen = 0 ∧ (theF L s).parts = 0) := by
  cases hh : hasFk L s with
  | false =>
    rw [the_no' hh]
    exact ⟨rfl, ⟨i64_zero, ⟨by simp, by simp⟩, goodB_nil, List.Pairwise.nil, by simp⟩, by simp, by simp, by simp, by simp, by simp⟩
  | true =>
    obtain ⟨y, hy, hn⟩ := hasK_iff.1 hh
    rw [(the_mem h.ok.up hy hn).2]
    exact ⟨hn, h.ok.each y hy, (h.gens y hy).1, (h.gens y hy).2, h.offs y hy, fun _ => ⟨by rw [← hn]; exact h.names y hy, hy⟩, by simp⟩

theorem goodB_iff {l : List (List UInt8)} : goodB l = true ↔ (∀ m ∈ l, nameB m = true) ∧ StrsUp l ∧ l.length ≤ 4 := by
  simp only [goodB, Bool.and_eq_true, decide_eq_true_eq, List.all_eq_true]
theorem good_left {l : List (List UInt8)} (h : goodB l = true) (m : List UInt8) : goodB (leftM l m) = true := by
  obtain ⟨h1, h2, h3⟩ := goodB_iff.1 h
  have hs := List.eraseIdx_sublist l (strAt l m)
  exact goodB_iff.2 ⟨fun x hx => h1 x (hs.subset hx), List.Pairwise.sublist hs h2, Nat.le_trans hs.length_le h3⟩
theorem mem_join (l : List (List UInt8)) (m x : List UInt8) : x ∈ joinM l m ↔ x = m ∨ x ∈ l := by
  unfold joinM
  constructor
  · intro hx
    rcases List.mem_append.1 hx with h | h
    · exact .inr (List.mem_of_mem_take h)
    · rcases List.mem_cons.1 h with h | h
      · exact .inl h
      · exact .inr (List.mem_of_mem_drop h)
  · rintro (rfl | h1)
    · simp
    · rw [← List.take_append_drop (strAt l m) l] at h1
      rcases List.mem_append.1 h1 with h | h
      · exact List.mem_append_left _ h
      · exact List.mem_append_right _ (List.mem_cons_of_mem _ h)
theorem good_join {l : List (List UInt8)} (h : goodB l = true) {m : List UInt8} (hm : nameB m = true) (hno : hasStr l m = false) (hl : l.length < 4) : goodB (joinM l m) = true := by
  obtain ⟨h1, h2, h3⟩ := goodB_iff.1 h
  refine goodB_iff.2 ⟨fun x hx => ?_, up_ins (key := fun x => x) (fun _ _ _ => txt_trans) txt_irrefl (fun _ _ => txt_tri) h2 hno rfl, by simp [joinM]; omega⟩
  rcases (mem_join l m x).1 hx with rfl | hx
  · exact hm
  · exact h1 x hx
theorem mem_left {l : List (List UInt8)} (h : StrsUp l) {m : List UInt8} (hm : hasStr l m = true) (x : List UInt8) : x ∈ leftM l m ↔ x ∈ l ∧ x ≠ m := by
  have hup : StrUp l := h
  obtain ⟨hk, hkm⟩ : ∃ hk : strAt l m < l.length, l[strAt l m]'hk = m := by
    obtain ⟨h1, h2⟩ := up_split (fun x => x) (fun _ _ _ => txt_trans) hup m
    have hh := hasK_of (fun x => x) (s := m) txt_irrefl (fun _ _ _ => txt_trans) (posK_le (fun x => x) l m) hup h1 h2
    by_cases hk : strAt l m < l.length
    · have := hh.1 hk
      unfold hasStr at hm
      rw [this] at hm
      exact ⟨hk, by simpa using hm⟩
    · have hle : strAt l m ≤ l.length := posK_le (fun x => x) l m
      have := hh.2 (Nat.le_antisymm hle (Nat.le_of_not_lt hk))
      unfold hasStr at hm
      rw [this] at hm
      cases hm
  unfold leftM
  rw [List.mem_eraseIdx_iff_getElem]
  constructor
  · rintro ⟨i, hi, hne, rfl⟩
    exact ⟨List.getElem_mem hi, fun e => hne (up_ne (key := fun x => x) txt_irrefl hup hi hk (by simpa [hkm] using e))⟩
  · rintro ⟨hx, hne⟩
    obtain ⟨i, hi, rfl⟩ := List.mem_iff_getElem.1 hx
    exact ⟨i, hi, fun e => hne (by subst e; exact hkm), rfl⟩
theorem hasStr_iff {l : List (List UInt8)} {m : List UInt8} : hasStr l m = true ↔ m ∈ l := by
  rw [hasStr, hasK_iff]
  constructor
  · rintro ⟨x, hx, rfl⟩; exact hx
  · exact fun h => ⟨m, h, rfl⟩
theorem clamp_le (n : Int) : 0 ≤ clampP n ∧ clampP n ≤ 4 := by unfold clampP; omega
theorem wrap_of {n : Int} (h : I64 n) : IntKind.i64.wrap n = n := by rw [IntWalk.i64_left]; unfold I64 at h; unfold wrap64; omega

/-- What a request brings: nothing, a coming, a going, a point. -/
inductive Brings (L : List Fk) (parts : Int) (q : Rq) : Prop where
  | none (c : Int) (h : decW L parts q = noW c) (hs : nextF L parts q = L) (hc : c = 0 → q.kind = 3 ∧ q.member ∈ (theF L q.group).members) (h1 : I64 c) (h6 : q.kind = 6 → (mayCommit (theF L q.group) (hasFk L q.group) q = true ∧ offB q.off = false ∧ c = 1) ∨ (mayCommit (theF L q.group) (hasFk L q.group) q = false ∧ c = 30))
  | join (hk : q.kind = 3) (hg : nameB q.group = true) (hm : nameB q.member = true) (hno : q.member ∉ (theF L q.group).members) (hgd : goodB (joinM (theF L q.group).members q.member) = true) (h : decW L parts q = turnW L parts q.group (joinM (theF L q.group).members q.member))
      (hs : Chg L (nextF L parts q) ⟨q.group, (theF L q.group).gen + 1, clampP parts, joinM (theF L q.group).members q.member, (theF L q.group).points⟩)
  | leave (hk : q.kind = 4) (hg : nameB q.group = true) (hm : nameB q.member = true) (hi : q.member ∈ (theF L q.group).members) (hgd : goodB (leftM (theF L q.group).members q.member) = true) (h : decW L parts q = turnW L parts q.group (leftM (theF L q.group).members q.member))
      (hs : Chg L (nextF L parts q) ⟨q.group, (theF L q.group).gen + 1, clampP parts, leftM (theF L q.group).members q.member, (theF L q.group).points⟩)
  | point (hk : q.kind = 6) (hg : nameB q.group = true) (hh : hasFk L q.group = true) (hmay : mayCommit (theF L q.group) (hasFk L q.group) q = true) (ho : offB q.off = true) (hgen : q.gen = (theF L q.group).gen) (hp : 1 ≤ q.part ∧ q.part ≤ 3) (h : decW L parts q = pointW q)
      (hs : Chg L (nextF L parts q) ⟨q.group, (theF L q.group).gen, (theF L q.group).parts, (theF L q.group).members, pointedP (theF L q.group).points (q.part, q.off)⟩)

theorem no_app (L : List Fk) (c : Int) : applyW L (noW c) = L := by
  rw [applyW, if_neg (by simp [turns, noW]), if_neg (by simp [points, noW])]

theorem brings {L : List Fk} {n : Nat} (h : Inv L n) (hn : n ≤ 1000) (parts : Int) (q : Rq) : Brings L parts q := by
  obtain ⟨hnm, hok, hg0, hgn, hoff, hyes, hno⟩ := h.the q.group
  have hI : I64 ((theF L q.group).gen + 1) := ⟨by omega, by omega⟩
  have hW : IntKind.i64.wrap ((theF L q.group).gen + 1) = (theF L q.group).gen + 1 := wrap_of hI
  have hW2 : IntKind.i64.wrap ((theF L q.group).gen + 1 - 1) = (theF L q.group).gen := by rw [wrap_of ⟨by omega, by omega⟩]; omega
  have hturn : ∀ ms, (hasFk L q.group = true ∨ L.length < 4) → decW L parts q = turnW L parts q.group ms → Chg L (nextF L parts q) ⟨q.group, (theF L q.group).gen + 1, clampP parts, ms, (theF L q.group).points⟩ := by
    intro ms hor hd
    have ht : turns L (turnW L parts q.group ms) = true := by
      simp only [turns, turnW, hW, hW2, decide_true, Bool.true_and, Bool.or_eq_true, decide_eq_true_eq]
      exact hor
    have := app_turn h.ok.up ht
    rw [nextF, hd]
    simpa [turnW, hW] using this
  have none' : ∀ c, decW L parts q = noW c → I64 c → (c = 0 → q.kind = 3 ∧ q.member ∈ (theF L q.group).members) → (q.kind = 6 → (mayCommit (theF L q.group) (hasFk L q.group) q = true ∧ offB q.off = false ∧ c = 1) ∨ (mayCommit (theF L q.group) (hasFk L q.group) q = false ∧ c = 30)) → Brings L parts q := fun c hd h1 hc h6 => .none c hd (by rw [nextF, hd, no_app]) hc h1 h6
  by_cases k6 : q.kind = 6
  · cases hmay : mayCommit (theF L q.group) (hasFk L q.group) q with
    | false => exact none' 30 (by rw [decW, if_pos k6, if_neg (by rw [hmay]; decide)]) (by constructor <;> omega) (by omega) (fun _ => .inr ⟨hmay, rfl⟩)
    | true =>
      cases ho : offB q.off with
      | false => exact none' 1 (by rw [decW, if_pos k6, if_pos hmay, if_neg (by rw [ho]; decide)]) (by constructor <;> omega) (by omega) (fun _ => .inl ⟨hmay, ho, rfl⟩)
      | true =>
        have hd : decW L parts q = pointW q := by rw [decW, if_pos k6, if_pos hmay, if_pos ho]
        have hm := hmay
        simp only [mayCommit, Bool.and_eq_true, decide_eq_true_eq] at hm
        obtain ⟨m1, m2, m3, m4⟩ := hm
        have hin := owner_in m3
        have hpt : points L (pointW q) = true := by simp only [points, pointW, decide_true, Bool.true_and, m1]; exact decide_eq_true m2
        have htn : turns L (pointW q) = false := by simp [turns, pointW]
        refine .point k6 (hyes m1).1 m1 hmay ho m2 (by omega) hd ?_
        have := app_point h.ok.up htn hpt
        rw [nextF, hd]
        simpa [pointW] using this
  · by_cases hbad : (q.kind ≠ 3 ∧ q.kind ≠ 4) ∨ (nameB q.group && nameB q.member) = false
    · exact none' 1 (by rw [decW, if_neg k6, if_pos hbad]) (by constructor <;> omega) (by omega) (fun e => absurd e k6)
    · obtain ⟨hk34, hnames⟩ := not_or.1 hbad
      have hnames' : nameB q.group = true ∧ nameB q.member = true := by simpa using hnames
      by_cases k4 : q.kind = 4
      · cases hs : hasStr (theF L q.group).members q.member with
        | false => exact none' 31 (by rw [decW, if_neg k6, if_neg hbad, if_pos k4, if_pos hs]) (by constructor <;> omega) (by omega) (fun e => absurd e k6)
        | true =>
          have hmem := hasStr_iff.1 hs
          have hd : decW L parts q = turnW L parts q.group (leftM (theF L q.group).members q.member) := by rw [decW, if_neg k6, if_neg hbad, if_pos k4, if_neg (by rw [hs]; decide)]
          have hh : hasFk L q.group = true := by
            cases hh : hasFk L q.group with
            | true => rfl
            | false => rw [(hno hh).1] at hmem; simp at hmem
          exact .leave k4 hnames'.1 hnames'.2 hmem (good_left hok.mem _) hd (hturn _ (.inl hh) hd)
      · have k3 : q.kind = 3 := Classical.byContradiction fun h3 => hk34 ⟨h3, k4⟩
        cases hs : hasStr (theF L q.group).members q.member with
        | true => exact none' 0 (by rw [decW, if_neg k6, if_neg hbad, if_neg k4, if_pos hs]) (by constructor <;> omega) (fun _ => ⟨k3, hasStr_iff.1 hs⟩) (fun e => absurd e k6)
        | false =>
          by_cases hfull : 4 ≤ (theF L q.group).members.length ∨ (hasFk L q.group = false ∧ 4 ≤ L.length)
          · exact none' 32 (by rw [decW, if_neg k6, if_neg hbad, if_neg k4, if_neg (by rw [hs]; decide), if_pos hfull]) (by constructor <;> omega) (by omega) (fun e => absurd e k6)
          · have hd : decW L parts q = turnW L parts q.group (joinM (theF L q.group).members q.member) := by
              rw [decW, if_neg k6, if_neg hbad, if_neg k4, if_neg (by rw [hs]; decide), if_neg hfull]
            obtain ⟨f1, f2⟩ := not_or.1 hfull
            refine .join k3 hnames'.1 hnames'.2 (fun hm => by rw [hasStr_iff.2 hm] at hs; cases hs) (good_join hok.mem hnames'.2 hs (by omega)) hd (hturn _ ?_ hd)
            cases hh : hasFk L q.group with
            | true => exact .inl rfl
            | false => exact .inr (by by_cases h4 : 4 ≤ L.length; exact absurd ⟨hh, h4⟩ f2; omega)

theorem dec_read {L : List Fk} {n : Nat} (h : Inv L n) (hn : n ≤ 1000) (parts : Int) (q : Rq) : readP (decideF L parts q).1 (decideF L parts q).2 false = (decW L parts q, true) := by
  have hb := brings h hn parts q
  obtain ⟨hnm, hok, hg0, hgn, hoff, hyes, hno⟩ := h.the q.group
  have hI : I64 (IntKind.i64.wrap ((theF L q.group).gen + 1)) := wrap_I64 _
  have rn : ∀ c, I64 c → readP [110] (encNo c) false = (noW c, true) := fun c hc => read_no hc
  have i1 : I64 1 := ⟨by decide, by decide⟩
  have i30 : I64 30 := ⟨by decide, by decide⟩
  have i31 : I64 31 := ⟨by decide, by decide⟩
  have i32 : I64 32 := ⟨by decide, by decide⟩
  have i0 : I64 0 := ⟨by decide, by decide⟩
  cases hb with
  | none c hd hs hc hI6 h6 =>
    unfold decW at hd ⊢
    unfold decideF commitP
    split
    · rename_i k6
      rw [if_pos k6] at hd
      split
      · rename_i hm
        rw [if_pos hm] at hd
        split
        · rename_i ho
          rw [if_pos ho] at hd
          exact absurd (congrArg (fun x => x.kind.toNat) hd) (by simp [noW, pointW])
        · exact rn 1 i1
      · exact rn 30 i30
    · rename_i k6
      rw [if_neg k6] at hd
      split
      · exact rn 1 i1
      · rename_i hbad
        rw [if_neg hbad] at hd
        split
        · rename_i k4
          rw [if_pos k4] at hd
          split
          · exact rn 31 i31
          · rename_i hs2
            rw [if_neg hs2] at hd
            exact absurd (congrArg (fun x => x.kind.toNat) hd) (by simp [turnW, noW])
        · rename_i k4
          rw [if_neg k4] at hd
          split
          · exact rn 0 i0
          · rename_i hs2
            rw [if_neg hs2] at hd
            split
            · exact rn 32 i32
            · rename_i hf
              rw [if_neg hf] at hd
              exact absurd (congrArg (fun x => x.kind.toNat) hd) (by simp [turnW, noW])
  | join hk hg hm hnom hgd hd hs =>
    rw [hd]
    have e : decideF L parts q = (116 :: q.group, encTurn (IntKind.i64.wrap ((theF L q.group).gen + 1)) (clampP parts) (joinM (theF L q.group).members q.member)) := by
      unfold decW at hd
      unfold decideF
      rw [if_neg (by omega)] at hd ⊢
      split
      · rename_i hbad; rw [if_pos hbad] at hd; exact absurd (congrArg (fun x => x.kind.toNat) hd) (by simp [turnW, noW])
      · rename_i hbad
        rw [if_neg hbad, if_neg (by omega)] at hd
        rw [if_neg (by omega)]
        split
        · rename_i h1; rw [if_pos h1] at hd; exact absurd (congrArg (fun x => x.kind.toNat) hd) (by simp [turnW, noW])
        · rename_i h1
          rw [if_neg h1] at hd
          split
          · rename_i h2; rw [if_pos h2] at hd; exact absurd (congrArg (fun x => x.kind.toNat) hd) (by simp [turnW, noW])
          · rfl
    rw [e]
    exact read_turn hg hgd hI (clamp_le parts)
  | leave hk hg hm hi hgd hd hs =>
    rw [hd]
    have e : decideF L parts q = (116 :: q.group, encTurn (IntKind.i64.wrap ((theF L q.group).gen + 1)) (clampP parts) (leftM (theF L q.group).members q.member)) := by
      unfold decW at hd
      unfold decideF
      rw [if_neg (by omega)] at hd ⊢
      split
      · rename_i hbad; rw [if_pos hbad] at hd; exact absurd (congrArg (fun x => x.kind.toNat) hd) (by simp [turnW, noW])
      · rename_i hbad
        rw [if_neg hbad, if_pos hk] at hd
        split
        · rename_i h1; rw [if_pos h1] at hd; exact absurd (congrArg (fun x => x.kind.toNat) hd) (by simp [turnW, noW])
        · rfl
    rw [e]
    exact read_turn hg hgd hI (clamp_le parts)
  | point hk hg hh hmay ho hgen hp hd hs =>
    rw [hd]
    have e : decideF L parts q = (99 :: (itoa q.part ++ q.group), encPoint q.off q.gen) := by rw [decideF, if_pos hk, commitP, if_pos hmay, if_pos ho]
    rw [e]
    exact read_point hg (by omega) ho ⟨by omega, by omega⟩

theorem step_eq {L : List Fk} {n : Nat} (h : Inv L n) (hn : n ≤ 1000) (parts : Int) (q : Rq) (off : Int) : applyR L ⟨off, (decideF L parts q).1, (decideF L parts q).2, false⟩ = nextF L parts q := by
  rw [applyR, dec_read h hn]; rfl

theorem chg_inv {L M : List Fk} {n : Nat} (h : Inv L n) (hM : FksOk M) {z : Fk} (hc : Chg L M z) (h1 : nameB z.name = true) (h2 : 0 ≤ z.gen ∧ z.gen ≤ n + 1) (h3 : ∀ x ∈ z.points, 0 ≤ x.2) : Inv M (n + 1) := by
  refine ⟨hM, fun y hy => ?_, fun y hy => ?_, fun y hy => ?_⟩ <;> rcases (hc y).1 hy with rfl | ⟨hy, -⟩
  · exact h1
  · exact h.names y hy
  · exact ⟨h2.1, by omega⟩
  · have := h.gens y hy; exact ⟨this.1, by omega⟩
  · exact h3
  · exact h.offs y hy

theorem next_inv {L : List Fk} {n : Nat} (h : Inv L n) (hn : n ≤ 1000) (parts : Int) (q : Rq) : Inv (nextF L parts q) (n + 1) := by
  obtain ⟨hnm, hok, hg0, hgn, hoff, hyes, hno⟩ := h.the q.group
  have hM : FksOk (nextF L parts q) := by rw [← step_eq h hn parts q 0]; exact applyR_ok h.ok _
  cases brings h hn parts q with
  | none c hd hs hc _ _ => rw [hs]; exact ⟨h.ok, h.names, fun y hy => by have := h.gens y hy; omega, h.offs⟩
  | join hk hg hm hnom hgd hd hs => exact chg_inv h hM hs hg ⟨by simp only; omega, by simp only; omega⟩ hoff
  | leave hk hg hm hi hgd hd hs => exact chg_inv h hM hs hg ⟨by simp only; omega, by simp only; omega⟩ hoff
  | point hk hg hh hmay ho hgen hp hd hs =>
    refine chg_inv h hM hs hg ⟨hg0, by simp only; omega⟩ ?_
    intro x hx
    simp only [offB, Bool.and_eq_true, decide_eq_true_eq] at ho
    rcases (mem_pointed hok.pts _ x).1 hx with rfl | ⟨h1, -⟩
    · exact ho.1
    · exact hoff x h1
end Go.Proofs.YtdchjepahgecgaaGreatDoor
