/- What a record does to the groups, in plain words; the pieces of flock.Apply's walk. -/
/- slices.Delete of one text, in a row that the call owns. -/
import Derived.Test.YtdchjepahgecgaaGreatDoorMq19
import Derived.Test.YtdchjepahgecgaaGreatDoorMq21
import Derived.Test.YtdchjepahgecgaaGreatDoorMq22
import Derived.Test.YtdchjepahgecgaaGreatDoorMq25
import Derived.Test.YtdchjepahgecgaaGreatDoorMq17
import Derived.Test.YtdchjepahgecgaaGreatDoorMq8
import Derived.Sort.OwnSorted
namespace Go.Proofs.YtdchjepahgecgaaGreatDoor
open Go.RowKit

/-- The group of a name; one without members, if there is none. -/
def theF (L : List Fk) (s : List UInt8) : Fk := if hasFk L s = true then L.getD (fkAt L s) ⟨s, 0, 0, [], []⟩ else ⟨s, 0, 0, [], []⟩
def turns (L : List Fk) (q : Wd) : Bool := decide (q.kind = 116) && (decide (IntKind.i64.wrap (q.gen - 1) = (theF L q.group).gen) && (hasFk L q.group || decide (L.length < 4)))
def points (L : List Fk) (q : Wd) : Bool := decide (q.kind = 99) && (hasFk L q.group && decide (q.gen = (theF L q.group).gen))
/-- One record more. -/
def applyW (L : List Fk) (q : Wd) : List Fk :=
  if turns L q = true then
    (if hasFk L q.group = true then L.set (fkAt L q.group) ⟨(theF L q.group).name, q.gen, q.parts, q.members, (theF L q.group).points⟩
     else L.take (fkAt L q.group) ++ ⟨q.group, q.gen, q.parts, q.members, []⟩ :: L.drop (fkAt L q.group))
  else if points L q = true then L.set (fkAt L q.group) ⟨(theF L q.group).name, (theF L q.group).gen, (theF L q.group).parts, (theF L q.group).members, pointedP (theF L q.group).points (q.part, q.off)⟩
  else L

theorem the_yes {w : World} {v : Value} {m : List Fv} {L : List Fk} (h : Rd w 5 v m.length (fkCells m)) (hf : ∀ x ∈ m, FvRd w x) (hmp : m.map (·.2.2) = L) (hr : FkUp L) (hL : L.length ≤ 1000) {s : List UInt8} (hb : hasFk L s = true) {k : Nat} (hk : fkAt L s = k) {y : Fk} (hy : L[k]? = some y) :
    Calls Tryz.prog 24 #[v, .string (bs s)] w fun e w' => Below w.heap.size w w' ∧ ∃ (hkm : k < m.length) (ma : Option Addr) (mc : Nat) (pa : Option Addr) (pc : Nat), m[k] = (.slice ma y.members.length mc, .slice pa y.points.length pc, y) ∧
      e = .returned (.tuple #[.agg #[.string (bs y.name), .int .i64 y.gen, .int .i64 y.parts, .slice ma y.members.length mc, .slice pa y.points.length pc], .bool true]) := by
  subst hmp
  refine (the_any h hf hr (by simpa using hL) s).mono ?_
  rintro e w' ⟨hb1, hor⟩
  refine ⟨hb1, ?_⟩
  rcases hor with ⟨k', hk', ma, mc, pa, pc, hk0, hkn, -, e1, e2, rfl⟩ | ⟨hno, -⟩
  · rw [hk] at hk0
    subst hk0
    have hy' : m[k'].2.2 = y := by
      rw [List.getElem?_map, List.getElem?_eq_getElem hk'] at hy
      simpa using hy
    refine ⟨hk', ma, mc, pa, pc, ?_, by rw [hy']⟩
    rw [hy'] at e1 e2
    rw [← e1, ← e2, ← hy']
  · rw [hb] at hno; cases hno

theorem the_no {w : World} {v : Value} {m : List Fv} {L : List Fk} (h : Rd w 5 v m.length (fkCells m)) (hf : ∀ x ∈ m, FvRd w x) (hmp : m.map (·.2.2) = L) (hr : FkUp L) (hL : L.length ≤ 1000) {s : List UInt8} (hb : hasFk L s = false) :
    Calls Tryz.prog 24 #[v, .string (bs s)] w fun e w' => Below w.heap.size w w' ∧ e = .returned (.tuple #[.agg #[.string (bs s), .int .i64 0, .int .i64 0, .slice none 0 0, .slice none 0 0], .bool false]) := by
  subst hmp
  refine (the_any h hf hr (by simpa using hL) s).mono ?_
  rintro e w' ⟨hb1, hor⟩
  refine ⟨hb1, ?_⟩
  rcases hor with ⟨k', hk', ma, mc, pa, pc, hk0, hkn, hyes, e1, e2, rfl⟩ | ⟨hno, rfl⟩
  · rw [hb] at hyes; cases hyes
  · rfl

/-- The three words of a turn are written. -/
theorem OwnG.turn {w : World} {N g n cap : Nat} {m : List Fv} (h : OwnF w N (.slice (some ⟨g, 0, none⟩) n cap) m) (hn : n = m.length) (j : Nat) (hj : j < m.length) (gen parts : Int) (mv : Value) (M : List (List UInt8)) (hm : w.ownsRow N 9 1 mv M.length (strCells M)) :
    OwnF (((w.setCell ⟨g, j * 5 + 1, none⟩ (.int .i64 gen)).setCell ⟨g, j * 5 + 2, none⟩ (.int .i64 parts)).setCell ⟨g, j * 5 + 3, none⟩ mv) N (.slice (some ⟨g, 0, none⟩) n cap) (m.set j (mv, m[j].2.1, ⟨m[j].2.2.name, gen, parts, M, m[j].2.2.points⟩)) := by
  have s1 := h.set (k' := m.length) hn j hj 1 (by decide) (.int .i64 gen) (m[j].1, m[j].2.1, ⟨m[j].2.2.name, gen, m[j].2.2.parts, m[j].2.2.members, m[j].2.2.points⟩) rfl (fun i hi => .inl hi) (h.mem j hj hj) (h.pts j hj hj) (fun i hi hk hne g hg => h.apart i j hi hj hi hj hne g hg)
  have hu1 := upd_set1 w g (j * 5 + 1) (.int .i64 gen)
  have hm1 : (w.setCell ⟨g, j * 5 + 1, none⟩ (.int .i64 gen)).ownsRow N 9 1 mv M.length (strCells M) := owns_upd hm hu1 (fun g' hg e => owns_types hm h.own (by decide) g' hg (by rw [e]; rfl))
  have hj1 : j < (m.set j (m[j].1, m[j].2.1, (⟨m[j].2.2.name, gen, m[j].2.2.parts, m[j].2.2.members, m[j].2.2.points⟩ : Fk))).length := by simpa using hj
  have hl1 : (m.set j (m[j].1, m[j].2.1, (⟨m[j].2.2.name, gen, m[j].2.2.parts, m[j].2.2.members, m[j].2.2.points⟩ : Fk))).length = m.length := by simp
  rw [← hl1] at s1
  have s2 := s1.set (k' := (m.set j (m[j].1, m[j].2.1, (⟨m[j].2.2.name, gen, m[j].2.2.parts, m[j].2.2.members, m[j].2.2.points⟩ : Fk))).length) (by rw [hl1]; exact hn) j hj1 2 (by decide) (.int .i64 parts) (m[j].1, m[j].2.1, ⟨m[j].2.2.name, gen, parts, m[j].2.2.members, m[j].2.2.points⟩) (by simp [fkEl]) (fun i hi => .inl hi)
    (by have := s1.mem j hj1 hj1; simpa using this) (by have := s1.pts j hj1 hj1; simpa using this) (fun i hi hk hne g hg => by have := s1.apart i j hi hj1 hi hj1 hne g hg; simpa using this)
  rw [List.set_set] at s2
  have hu2 := upd_set1 (w.setCell ⟨g, j * 5 + 1, none⟩ (.int .i64 gen)) g (j * 5 + 2) (.int .i64 parts)
  have hm2 := owns_upd hm1 hu2 (fun g' hg e => owns_types hm1 s1.own (by decide) g' hg (by rw [e]; rfl))
  have hj2 : j < (m.set j (m[j].1, m[j].2.1, (⟨m[j].2.2.name, gen, parts, m[j].2.2.members, m[j].2.2.points⟩ : Fk))).length := by simpa using hj
  have hl2 : (m.set j (m[j].1, m[j].2.1, (⟨m[j].2.2.name, gen, parts, m[j].2.2.members, m[j].2.2.points⟩ : Fk))).length = m.length := by simp
  rw [hl1, ← hl2] at s2
  have s3 := s2.set (k' := (m.set j (m[j].1, m[j].2.1, (⟨m[j].2.2.name, gen, parts, m[j].2.2.members, m[j].2.2.points⟩ : Fk))).length) (by rw [hl2]; exact hn) j hj2 3 (by decide) mv (mv, m[j].2.1, ⟨m[j].2.2.name, gen, parts, M, m[j].2.2.points⟩) (by simp [fkEl]) (fun i hi => .inl hi)
    hm2 (by have := s2.pts j hj2 hj2; simpa using this) (fun i hi hk hne g hg => by have := s2.apart i j hi hj2 hi hj2 hne g hg; simpa using this)
  rw [List.set_set] at s3
  have hl3 : (m.set j (mv, m[j].2.1, (⟨m[j].2.2.name, gen, parts, M, m[j].2.2.points⟩ : Fk))).length = m.length := by simp
  rw [hl2, ← hl3] at s3
  exact s3

/-- The points of a group have been written over, and their word is written. -/
theorem OwnG.point {w w' : World} {N g n cap : Nat} {m : List Fv} (h : OwnF w N (.slice (some ⟨g, 0, none⟩) n cap) m) (hn : n = m.length) (j : Nat) (hj : j < m.length) (_hN : N ≤ w.heap.size) (hu : Upd (fun b => some b = m[j].2.1.ownBlock) w w') (pv : Value) (P : List (Int × Int))
    (hp : w'.ownsRow N 58 2 pv P.length (ptCells P)) (hnew : ∀ b, pv.ownBlock = some b → m[j].2.1.ownBlock = some b ∨ w.heap.size ≤ b) :
    (∀ r u, (fkEl m[j])[r]? = some u → w'.cell? ⟨g, j * 5 + r, none⟩ = some u ∧ w'.frozen? ⟨g, j * 5 + r, none⟩ = false) ∧
    OwnF (w'.setCell ⟨g, j * 5 + 4, none⟩ pv) N (.slice (some ⟨g, 0, none⟩) n cap) (m.set j (m[j].1, pv, ⟨m[j].2.2.name, m[j].2.2.gen, m[j].2.2.parts, m[j].2.2.members, P⟩)) := by
  subst hn
  have hs := upd_set1 w' g (j * 5 + 4) pv
  have hown' : w'.ownsRow N 44 5 (.slice (some ⟨g, 0, none⟩) m.length cap) m.length (fkCells m) := owns_upd h.own hu (fun g' hg e => owns_types h.own (h.pts j hj hj) (by decide) g' hg e)
  have hmem' : ∀ i (hi : i < m.length), w'.ownsRow N 9 1 m[i].1 m[i].2.2.members.length (strCells m[i].2.2.members) := fun i hi => owns_upd (h.mem i hi hi) hu (fun g' hg e => owns_types (h.mem i hi hi) (h.pts j hj hj) (by decide) g' hg e)
  have hpts' : ∀ i (hi : i < m.length), i ≠ j → w'.ownsRow N 58 2 m[i].2.1 m[i].2.2.points.length (ptCells m[i].2.2.points) := fun i hi hne => owns_upd (h.pts i hi hi) hu (fun g' hg e => h.apart i j hi hj hi hj hne g' hg e.symm)
  refine ⟨fun r u hr => ?_, ?_⟩
  · have hr5 : r < 5 := by rw [← fkEl_len m[j]]; exact (List.getElem?_eq_some_iff.1 hr).1
    exact ⟨by rw [hown'.cellAt _ (by omega)]; exact fl_at fkEl_len m j hj r u hr, hown'.frozenAt _⟩
  · have hget : ∀ i (hi : i < (m.set j (m[j].1, pv, (⟨m[j].2.2.name, m[j].2.2.gen, m[j].2.2.parts, m[j].2.2.members, P⟩ : Fk))).length), i ≠ j → (m.set j (m[j].1, pv, (⟨m[j].2.2.name, m[j].2.2.gen, m[j].2.2.parts, m[j].2.2.members, P⟩ : Fk)))[i] = m[i]'(by simpa using hi) := fun i hi hne => by rw [List.getElem_set_ne (fun e => hne e.symm)]
    refine ⟨?_, ?_, ?_, ?_⟩
    · have := (hown'.stored (j * 5 + 4) pv).1
      unfold fkCells at this
      rw [fl_set fkEl_len m j hj 4 (by decide) pv (m[j].1, pv, ⟨m[j].2.2.name, m[j].2.2.gen, m[j].2.2.parts, m[j].2.2.members, P⟩) rfl] at this
      simpa [fkCells] using this
    · intro i hi _
      by_cases he : i = j
      · subst he
        simp only [List.getElem_set_self]
        have hc := hmem' i hj
        exact owns_upd hc hs (fun g' hg e => owns_types hc hown' (by decide) g' hg (by rw [e]; rfl))
      · rw [hget i hi he]
        have hc := hmem' i (by simpa using hi)
        exact owns_upd hc hs (fun g' hg e => owns_types hc hown' (by decide) g' hg (by rw [e]; rfl))
    · intro i hi _
      by_cases he : i = j
      · subst he
        simp only [List.getElem_set_self]
        exact owns_upd hp hs (fun g' hg e => owns_types hp hown' (by decide) g' hg (by rw [e]; rfl))
      · rw [hget i hi he]
        have hc := hpts' i (by simpa using hi) he
        exact owns_upd hc hs (fun g' hg e => owns_types hc hown' (by decide) g' hg (by rw [e]; rfl))
    · intro i i' hi hi' _ _ hne g' hg
      have hi2 : i < m.length := by simpa using hi
      have hi2' : i' < m.length := by simpa using hi'
      have key : ∀ a (ha : a < m.length), a ≠ j → m[a].2.1.ownBlock = some g' → pv.ownBlock ≠ some g' := by
        intro a ha hane h1 h2
        rcases hnew g' h2 with h3 | h3
        · exact h.apart a j ha hj ha hj hane g' h1 h3
        · have := (owns_lt (h.pts a ha ha) g' h1).2; omega
      by_cases he : i = j
      · subst he
        simp only [List.getElem_set_self] at hg
        rw [hget i' hi' (fun e => hne e.symm)]
        exact fun e => key i' hi2' (fun e => hne e.symm) e hg
      · rw [hget i hi he] at hg
        by_cases he' : i' = j
        · subst he'
          simp only [List.getElem_set_self]
          exact key i hi2 he hg
        · rw [hget i' hi' he']
          exact h.apart i i' hi2 hi2' hi2 hi2' hne g' hg
end Go.Proofs.YtdchjepahgecgaaGreatDoor
namespace Go.Proofs.YtdchjepahgecgaaGreatDoor
open Go.RowKit

set_option maxRecDepth 100000 in
theorem DeleteStr_own {w : World} {N g cap : Nat} {l : List (List UInt8)} (h : w.ownsRow N 9 1 (.slice (some ⟨g, 0, none⟩) l.length cap) l.length (strCells l)) (i : Nat) (hi : i < l.length) :
    Calls Tryz.prog 36 #[.slice (some ⟨g, 0, none⟩) l.length cap, .int .i64 i, .int .i64 ((i + 1 : Nat) : Int)] w fun e w' => e = .returned (.slice (some ⟨g, 0, none⟩) (l.length - 1) cap) ∧
      w'.ownsRow N 9 1 (.slice (some ⟨g, 0, none⟩) (l.length - 1) cap) (l.length - 1) (strCells (l.eraseIdx i)) ∧ Upd (fun k => k = g) w w' := by
  rcases h.2 with ⟨h0, _⟩ | ⟨g', cap', cur, hv, hg, hb, hn, hcap, hcs, htk⟩
  · cases h0
  simp only [Value.slice.injEq, Option.some.injEq, Addr.mk.injEq, and_true, true_and] at hv
  obtain ⟨rfl, rfl⟩ := hv
  have hH : Sort.Holds encStr w g 0 l.toArray := by
    intro j hj
    have hj' : j < l.length := by simpa using hj
    refine ⟨?_, frozen_of hb⟩
    rw [Nat.zero_add, h.cellAt j (by omega), strCells_get l j hj']
    simp [hj', bs, encStr]
  have hl63 : cap ≤ 9223372036854775807 := hcap
  refine (AnyG.slices_Delete_string Tryz.delS g 0 cap i (i + 1) l w hH hn hl63 (by omega) (by omega)).mono ?_
  rintro e w' ⟨rfl, q, rfl⟩
  have e1 : i + 1 - i = 1 := by omega
  rw [e1]
  obtain ⟨ts, hts⟩ : ∃ ts, ts = l.take i ++ l.drop (i + 1) ++ List.replicate 1 [] := ⟨_, rfl⟩
  rw [← hts]
  have hlen : ts.length = l.length := by rw [hts]; simp; omega
  have htake : ts.take (l.length - 1) = l.eraseIdx i := by
    rw [hts, List.eraseIdx_eq_take_drop_succ, List.take_append_of_le_length (by simp; omega)]
    exact List.take_of_length_le (by simp; omega)
  have hblk : (Sort.putRow encStr (Sort.ahead w q) g 0 ts.toArray).heap[g]? = some (.cells (Sort.putCells encStr 0 ts.toArray cur) 9 (0, 0)) := by
    simp [Sort.putRow, Sort.mapBlock, Sort.ahead, Array.getElem?_modify, hb, Sort.onCells]
  refine ⟨rfl, ⟨?_, .inr ⟨g, cap, _, rfl, hg, hblk, by omega, hcap, by simp [Sort.putCells, hcs], ?_⟩⟩, ?_⟩
  · rw [strCells_length, ← htake, List.length_take]; omega
  · have h2 := _root_.Go.take_putCells cur ts (by omega)
    rw [Nat.mul_one, ← htake]
    have h3 := congrArg (List.take (l.length - 1)) h2
    rw [List.take_take, Nat.min_eq_left (by omega), ← List.map_take] at h3
    exact h3
  · refine ⟨rfl, rfl, rfl, by simp [Sort.putRow, Sort.mapBlock, Sort.ahead], fun k hk hne => ?_⟩
    have : g ≠ k := fun e => hne e.symm
    simp [Sort.putRow, Sort.mapBlock, Sort.ahead, Array.getElem?_modify, this]
end Go.Proofs.YtdchjepahgecgaaGreatDoor
