/- What the reference's loops put together, in plain words. -/
/- The walk of the reference's Copy of layer 11. -/
import Derived.Test.YtdchjepahgecgaaGreatDoorMq21
import Derived.Test.YtdchjepahgecgaaGreatDoorMq19
import Derived.Test.YtdchjepahgecgaaGreatDoorMq32
import Derived.Laws.AppendOwnNone
namespace Go.Proofs.YtdchjepahgecgaaGreatDoor
open Go.RowKit

def insK {α : Type} (L : List α) (f : α) (p k : Nat) : List α := if k ≤ p then L.take k else L.take p ++ f :: (L.take k).drop p
theorem insK_zero {α : Type} (L : List α) (f : α) (p : Nat) : insK L f p 0 = [] := by simp [insK]
theorem insK_lt {α : Type} {L : List α} {f : α} {p k : Nat} (hk : k < L.length) (h : k < p) : insK L f p (k + 1) = insK L f p k ++ [L[k]] := by
  rw [insK, if_pos (by omega), insK, if_pos (by omega), List.take_succ_eq_append_getElem hk]
theorem insK_eq {α : Type} {L : List α} {f : α} {k : Nat} (hk : k < L.length) : insK L f k (k + 1) = insK L f k k ++ [f] ++ [L[k]] := by
  rw [insK, if_neg (by omega), insK, if_pos (Nat.le_refl _), List.take_succ_eq_append_getElem hk, List.drop_append_of_le_length (by simp; omega)]
  simp
theorem insK_gt {α : Type} {L : List α} {f : α} {p k : Nat} (hk : k < L.length) (h : p < k) : insK L f p (k + 1) = insK L f p k ++ [L[k]] := by
  rw [insK, if_neg (by omega), insK, if_neg (by omega), List.take_succ_eq_append_getElem hk, List.drop_append_of_le_length (by simp; omega)]
  simp
theorem insK_end {α : Type} {L : List α} {f : α} {p : Nat} (hp : p < L.length) : insK L f p L.length = L.take p ++ f :: L.drop p := by
  rw [insK, if_neg (by omega), List.take_length]
theorem insK_last {α : Type} {L : List α} {f : α} : insK L f L.length L.length ++ [f] = L.take L.length ++ f :: L.drop L.length := by
  rw [insK, if_pos (Nat.le_refl _)]
  simp
theorem insK_len {α : Type} {L : List α} {f : α} {p k : Nat} (hk : k ≤ L.length) (hp : p ≤ L.length) : (insK L f p k).length ≤ k + 1 := by
  unfold insK
  split
  · simp; omega
  · simp; omega

def insH {α : Type} (l : List α) (z : α) (p h k : Nat) : List α := if k ≤ p then l.take k else l.take p ++ z :: (l.take k).drop (p + h)
def ptH (l : List (Int × Int)) (a : Int) : Nat := if hasPt l a = true then 1 else 0
def ptK (l : List (Int × Int)) (z : Int × Int) (k : Nat) : List (Int × Int) := insH l z (ptAt l z.1) (ptH l z.1) k
theorem ptH_no {l : List (Int × Int)} {a : Int} (h : hasPt l a = false) : ptH l a = 0 := by simp [ptH, h]
theorem ptH_yes {l : List (Int × Int)} {a : Int} (h : hasPt l a = true) : ptH l a = 1 := by simp [ptH, h]

/-- Where an element of a rising row stands against a number. -/
theorem pt_where {l : List (Int × Int)} (hr : PtUp l) (a : Int) {k : Nat} (hk : k < l.length) :
    (k < ptAt l a → l[k].1 < a) ∧ (k = ptAt l a → a ≤ l[k].1 ∧ (l[k].1 = a ↔ hasPt l a = true)) ∧ (ptAt l a < k → a < l[k].1) := by
  obtain ⟨h1, h2⟩ := up_split Prod.fst int_tr hr a
  refine ⟨fun h => h1 k hk h, ?_, ?_⟩
  · intro h
    have h3 := h2 k hk (Nat.le_of_eq h.symm)
    refine ⟨by omega, ?_, ?_⟩
    · intro e
      simp only [hasPt, hasK, List.any_eq_true, decide_eq_true_eq]
      exact ⟨l[k], List.getElem_mem hk, e⟩
    · intro e
      obtain ⟨h4, h5⟩ := hasPt_at hr e
      subst h
      exact h5
  · intro h
    have hp : posK Prod.fst l a < l.length := Nat.lt_trans h hk
    have h3 := h2 (posK Prod.fst l a) hp (Nat.le_refl _)
    have h4 : l[posK Prod.fst l a].1 < l[k].1 := List.pairwise_iff_getElem.1 hr _ _ hp hk h
    omega

theorem ptK_zero (l : List (Int × Int)) (z : Int × Int) : ptK l z 0 = [] := by simp [ptK, insH]
theorem ptK_lt {l : List (Int × Int)} {z : Int × Int} {k : Nat} (hk : k < l.length) (h : k < ptAt l z.1) : ptK l z (k + 1) = ptK l z k ++ [l[k]] := by
  unfold ptK
  rw [insH, if_pos (by omega), insH, if_pos (by omega), List.take_succ_eq_append_getElem hk]
theorem ptK_eq_no {l : List (Int × Int)} {z : Int × Int} {k : Nat} (hk : k < l.length) (h : k = ptAt l z.1) (hh : hasPt l z.1 = false) : ptK l z (k + 1) = ptK l z k ++ [z] ++ [l[k]] := by
  unfold ptK
  rw [ptH_no hh, ← h, insH, if_neg (by omega), insH, if_pos (by omega), List.take_succ_eq_append_getElem hk, List.drop_append_of_le_length (by simp; omega)]
  simp
theorem ptK_eq_yes {l : List (Int × Int)} {z : Int × Int} {k : Nat} (hk : k < l.length) (h : k = ptAt l z.1) (hh : hasPt l z.1 = true) : ptK l z (k + 1) = ptK l z k ++ [z] := by
  unfold ptK
  rw [ptH_yes hh, ← h, insH, if_neg (by omega), insH, if_pos (by omega), List.drop_of_length_le (by simp; omega)]
theorem ptK_gt {l : List (Int × Int)} {z : Int × Int} {k : Nat} (hk : k < l.length) (h : ptAt l z.1 < k) : ptK l z (k + 1) = ptK l z k ++ [l[k]] := by
  unfold ptK
  have hh : ptH l z.1 ≤ 1 := by unfold ptH; split <;> omega
  rw [insH, if_neg (by omega), insH, if_neg (by omega), List.take_succ_eq_append_getElem hk, List.drop_append_of_le_length (by simp; omega)]
  simp
theorem ptK_end {l : List (Int × Int)} {z : Int × Int} (h : ptAt l z.1 < l.length) : ptK l z l.length = pointedP l z := by
  unfold ptK
  rw [insH, if_neg (by omega), List.take_length, pointedP]
  cases hh : hasPt l z.1 with
  | true => rw [ptH_yes hh, if_pos rfl, List.set_eq_take_append_cons_drop, if_pos h]
  | false => rw [ptH_no hh, if_neg (by simp), Nat.add_zero]
theorem ptK_last {l : List (Int × Int)} {z : Int × Int} (hr : PtUp l) (h : ptAt l z.1 = l.length) : ptK l z l.length ++ [z] = pointedP l z := by
  have hh : ¬ hasPt l z.1 = true := by
    intro e
    obtain ⟨h1, -⟩ := hasPt_at hr e
    omega
  unfold ptK
  rw [insH, if_pos (by omega), pointedP, if_neg hh, h]
  simp
theorem ptK_len {l : List (Int × Int)} {z : Int × Int} {k : Nat} (hk : k ≤ l.length) : (ptK l z k).length ≤ k + 1 := by
  unfold ptK insH
  split
  · simp; omega
  · have := posK_le Prod.fst l z.1
    simp; omega
end Go.Proofs.YtdchjepahgecgaaGreatDoor
namespace Go.Proofs.YtdchjepahgecgaaGreatDoor
open Go.RowKit

/-- 'append(s, xs...)' where s is a row of the call's own that is not nil, and xs is any slice that is read, nil or not. -/
theorem wpList_append_rd {w : World} {ops : Array Oper} {rest : List Oper} {o : Oper} {a : Act} {Q : Exit → Act → World → Prop} (hgd : o.guard = none) (s x : Operand) (t : TypeId)
    (ho : o.op = .call { callee := .builtin .append, args := #[s, x], argTypes := #[t, t] })
    (base : Nat) (e : TypeId) (i : TypeInfo) (z : Value) (size bytes : Nat) (ht : Tryz.prog.underlying t = some (.slice e)) (hi : Tryz.prog.info? e = some i) (hz : i.zero = some z)
    (hsize : i.size = size) (hby : i.bytes = bytes) (hzs : z.cells.size = size) (hsz : 0 < size)
    (v : Value) (n : Nat) (xs : List Value) (hs : a.eval s = v) (hown : w.ownsRow base e size v n xs)
    (xv : Value) (m : Nat) (news : List Value) (hx : a.eval x = xv) (hrd : Rd w size xv m news) (h1 : ∀ u ∈ news, u.oneCell' = true)
    (h63 : n + m ≤ maxLen) (hbytes : (n + m) * bytes ≤ 140737488355328) (hbase : base ≤ w.heap.size)
    (h : ∀ a' c' w', w'.ownsRow base e size (.slice a' (n + m) c') (n + m) (xs ++ news) → w.grownBy w' v.ownBlock → wpList Tryz.prog ops Q rest (a.put o.dst (.slice a' (n + m) c')) w') : wpList Tryz.prog ops Q (o :: rest) a w := by
  rcases hrd.2 with ⟨h0, rfl⟩ | ⟨ad, cap, h0, hle, hcap, hc⟩
  · have hn : news = [] := by
      have := hrd.1
      simpa using this
    subst hn
    obtain ⟨va, vc, hv, -⟩ := (Sl.of_owns hown).shape
    refine wpList_append_own_none hgd s x t ho base e i size ht hi v n xs hs hown (hx.trans h0) ?_
    have := h va vc w (by rw [List.append_nil, Nat.add_zero, ← hv]; exact hown) (World.grownBy.refl _ _)
    rw [Nat.add_zero, ← hv] at this
    exact this
  · refine wpList_append_own _ hgd s x t ho base e i z size bytes ht hi hz hsize hby hzs hsz v n xs hs hown ad m cap news (hx.trans h0) hrd.1 hc h1 h63 hbytes hbase ?_
    intro v' w' hown' hgrow _
    obtain ⟨va, vc, hv, -⟩ := (Sl.of_owns hown').shape
    rw [hv] at hown' ⊢
    exact h va vc w' hown' hgrow

theorem owns_cells' {w : World} {N e size : Nat} {v : Value} {n : Nat} {xs : List Value} (h : w.ownsRow N e size v n xs) : ∀ g, v.ownBlock = some g → ∃ cur, w.heap[g]? = some (.cells cur e (0, 0)) := by
  intro g hg
  rcases h.2 with ⟨h0, _⟩ | ⟨g', cap, cur, hv, _, h3, _⟩
  · rw [h0] at hg; cases hg
  · rw [hv] at hg
    simp only [Value.ownBlock, Option.some.injEq] at hg
    subst hg
    exact ⟨cur, h3⟩

/-- A group more in a row whose words are all the call's own. -/
theorem OwnG.snoc {w w5 w7 : World} {N : Nat} {v v' : Value} {m : List Fv} (h : OwnF w N v m) (hN : N ≤ w.heap.size) (hb : Below w.heap.size w w5) {mv pv : Value} {y : Fk}
    (hm : w5.ownsRow w.heap.size 9 1 mv y.members.length (strCells y.members)) (hp : w5.ownsRow w.heap.size 58 2 pv y.points.length (ptCells y.points))
    (hu : Upd (fun k => some k = v.ownBlock) w5 w7) (hown : w7.ownsRow N 44 5 v' (m.length + 1) (fkCells m ++ fkEl (mv, pv, y))) :
    OwnF w7 N v' (m ++ [(mv, pv, y)]) := by
  have h5 := h.below hb
  have hlen : (m ++ [(mv, pv, y)]).length = m.length + 1 := by simp
  have hvlt := owns_lt h.own
  have hmem5 : ∀ i (hi : i < m.length), w7.ownsRow N 9 1 m[i].1 m[i].2.2.members.length (strCells m[i].2.2.members) := fun i hi => owns_upd (h5.mem i hi hi) hu (fun g hg e => owns_types (h5.mem i hi hi) h5.own (by decide) g hg e)
  have hpts5 : ∀ i (hi : i < m.length), w7.ownsRow N 58 2 m[i].2.1 m[i].2.2.points.length (ptCells m[i].2.2.points) := fun i hi => owns_upd (h5.pts i hi hi) hu (fun g hg e => owns_types (h5.pts i hi hi) h5.own (by decide) g hg e)
  have hm7 : w7.ownsRow N 9 1 mv y.members.length (strCells y.members) := owns_mono (owns_upd hm hu (fun g hg e => by have := (owns_lt hm g hg).1; have := (hvlt g e.symm).2; omega)) hN
  have hp7 : w7.ownsRow N 58 2 pv y.points.length (ptCells y.points) := owns_mono (owns_upd hp hu (fun g hg e => by have := (owns_lt hp g hg).1; have := (hvlt g e.symm).2; omega)) hN
  refine ⟨?_, ?_, ?_, ?_⟩
  · rw [hlen]
    simpa [fkCells] using hown
  · intro i hi _
    by_cases e : i < m.length
    · rw [List.getElem_append_left e]; exact hmem5 i e
    · have : i = m.length := by omega
      subst this
      rw [List.getElem_append_right (Nat.le_refl _)]
      simpa using hm7
  · intro i hi _
    by_cases e : i < m.length
    · rw [List.getElem_append_left e]; exact hpts5 i e
    · have : i = m.length := by omega
      subst this
      rw [List.getElem_append_right (Nat.le_refl _)]
      simpa using hp7
  · intro i j hi hj _ _ hne g hg
    have hold : ∀ a (ha : a < m.length), m[a].2.1.ownBlock = some g → pv.ownBlock ≠ some g := fun a ha h1 h2 => by
      have h3 := (owns_lt (h.pts a ha ha) g h1).2
      have h4 := (owns_lt hp g h2).1
      omega
    by_cases ei : i < m.length
    · rw [List.getElem_append_left ei] at hg
      by_cases ej : j < m.length
      · rw [List.getElem_append_left ej]; exact h.apart i j ei ej ei ej hne g hg
      · rw [List.getElem_append_right (by omega)]
        have : j - m.length = 0 := by omega
        simp only [this, List.getElem_cons_zero]
        exact hold i ei hg
    · rw [List.getElem_append_right (by omega)] at hg
      have e0 : i - m.length = 0 := by omega
      simp only [e0, List.getElem_cons_zero] at hg
      by_cases ej : j < m.length
      · rw [List.getElem_append_left ej]; exact fun e => hold j ej e hg
      · omega

set_option maxRecDepth 100000 in
set_option maxHeartbeats 4000000 in
theorem R11Copy_any {w : World} {v : Value} {L : List Fk} (h : FksRd w v L) (hs : SmallL L) : Calls Tryz.prog 28 #[v] w (ApplyTo w L) := by
  obtain ⟨a, c, rfl, -, hm, hC⟩ := h.cells
  have hm1 : (L.length : Int) ≤ 9223372036854775807 := by have : maxLen = 9223372036854775807 := rfl; omega
  obtain ⟨i1, mi, mz0, mz1, mz2⟩ := info_parts info_Str
  obtain ⟨i2, pi, pz0, pz1, pz2⟩ := info_parts info_Point
  obtain ⟨i3, ki, kz0, kz1, kz2⟩ := info_parts info_Flock
  have HC := Lib.hid hC
  have HS := Lib.hid hs
  clear h hC hm hs
  go_enter Tryz.func28, Tryz.ntmps28
  go_wp2
  go_loopg [3, 4] L.length (fun gk v i wr => ∃ (k : Nat) (va : Option Addr) (vc : Nat) (m : List Fv), k ≤ L.length ∧ gk = L.length - k ∧ i = .int .i64 k ∧ v = .slice va k vc ∧ m.length = k ∧ m.map (·.2.2) = L.take k ∧ OwnF wr w.heap.size v m ∧ Below w.heap.size w wr)
  case atStart =>
    exact ⟨0, some ⟨w.heap.size, 0, none⟩, 0, [], Nat.zero_le _, rfl, rfl, rfl, rfl, rfl, ⟨World.ownsRow_made (e := 44) (size := 5) (base := w.heap.size) w #[] 0 (Nat.le_refl _) (Nat.zero_le _) rfl, fun i hi => absurd hi (Nat.not_lt_zero i), fun i hi => absurd hi (Nat.not_lt_zero i), fun i _ hi => absurd hi (Nat.not_lt_zero i)⟩, below_alloc _ _⟩
  case round =>
    obtain ⟨k, va, vc, m, hk, rfl, rfl, rfl, hml, hmp, hown, hbel⟩ := hrel
    have hsz := hbel.size
    by_cases hlt : k < L.length
    · obtain ⟨b, off, ma, mc, pa, pc, rfl, hb, x0, x1, x2, x3, x4, hst, hpt⟩ := HC.out k hlt
      have i1' : (k : Int) < (L.length : Int) := by omega
      have i2' : (0 : Int) ≤ (k : Int) := by omega
      have htk : L.take (k + 1) = L.take k ++ [L[k]] := by rw [List.take_succ_eq_append_getElem hlt]
      have hml1 := HS.out.mem _ (List.getElem_mem hlt)
      have hpl1 := HS.out.pts _ (List.getElem_mem hlt)
      have hL1 := HS.out.len
      obtain ⟨y, hy⟩ : ∃ y, L[k] = y := ⟨_, rfl⟩
      rw [hy] at htk hml1 hpl1 x0 x1 x2 x3 x4 hst hpt
      have x0 := below_some hbel x0 hb
      have x1 := below_some hbel x1 hb
      have x2 := below_some hbel x2 hb
      have x3 := below_some hbel x3 hb
      have x4 := below_some hbel x4 hb
      have hst := Strs.below hst hbel
      have hpt := PtsRd.below hpt hbel
      obtain ⟨n, hn⟩ : ∃ n, wr.heap.size = n := ⟨_, rfl⟩
      obtain ⟨w1, hw1⟩ : ∃ w1, w1 = (wr.alloc (.cells #[.string (bs y.name), .int .i64 y.gen, .int .i64 y.parts, .slice ma y.members.length mc, .slice pa y.points.length pc] 44)).alloc (.cells #[] 9) := ⟨_, rfl⟩
      have hb1 : Below wr.heap.size wr w1 := by rw [hw1]; exact below_alloc2 _ _ _
      have hX1 : w1.heap[n]? = some (.cells #[.string (bs y.name), .int .i64 y.gen, .int .i64 y.parts, .slice ma y.members.length mc, .slice pa y.points.length pc] 44 (0, 0)) := by
        rw [hw1, ← hn, Below.heap_alloc _ _ _ (by simp)]; exact heap_alloc_new _ _
      have hs1 : w1.heap.size = n + 2 := by rw [hw1, ← hn]; simp
      have hM1 : w1.ownsRow (n + 1) 9 1 (.slice (some ⟨n + 1, 0, none⟩) 0 0) 0 [] := by
        have := World.ownsRow_made (e := 9) (size := 1) (base := n + 1) (wr.alloc (.cells #[.string (bs y.name), .int .i64 y.gen, .int .i64 y.parts, .slice ma y.members.length mc, .slice pa y.points.length pc] 44)) #[] 0 (by simp [hn]) (Nat.zero_le _) rfl
        rw [World.size_alloc, hn] at this
        rw [hw1]; exact this
      have hR1 : Rd w1 1 (.slice ma y.members.length mc) y.members.length (strCells y.members) := Strs.below hst hb1
      have c13 : w1.cell? ⟨n, 3, none⟩ = some (.slice ma y.members.length mc) := cells_of hX1 3 _ rfl
      have f13 : w1.frozen? ⟨n, 3, none⟩ = false := frozen_of hX1
      have H1 := Lib.hid (And.intro hb1 (And.intro hX1 (And.intro hs1 (And.intro hM1 hR1))))
      have HW1 := Lib.hid hw1
      have HX := Lib.hid (And.intro hml (And.intro hmp (And.intro hown (And.intro hbel (And.intro htk hpt)))))
      have HY := Lib.hid hy
      clear hb1 hX1 hs1 hM1 hR1 hw1 hml hmp hown hbel htk hst hpt hy
      go_upto_region 6 with fail
      go_upto_region 7 with (first | (at_builtin; rw [← HW1.out]; refine wpList_append_rd rfl _ _ 41 rfl (n + 1) 9 i1 _ 1 16 und_Strings mi mz0 mz1 mz2 rfl (by decide) (.slice (some ⟨n + 1, 0, none⟩) 0 0) 0 [] rfl H1.out.2.2.2.1 (.slice ma y.members.length mc) y.members.length (strCells y.members) rfl H1.out.2.2.2.2 (oneStrs _) ?_ ?_ ?_ ?_; (unfold maxLen; omega); omega; (have := H1.out.2.2.1; omega); intro a7 c7 w7 hown7 hgrow7; have hu7 : Upd (fun b => b = n + 1) w1 w7 := (upd_grown hgrow7).mono (fun b _ e => by simpa [Value.ownBlock] using e); have hX7 := (hu7.block n (by have := H1.out.2.2.1; omega) (by omega)).trans H1.out.2.1; have c73 : w7.cell? ⟨n, 3, none⟩ = some (.slice ma y.members.length mc) := cells_of hX7 3 _ rfl; have f73 : w7.frozen? ⟨n, 3, none⟩ = false := frozen_of hX7; have H7 := Lib.hid (And.intro hown7 (And.intro hu7 hX7)); clear hown7 hgrow7 hu7 hX7))
      try simp only [Nat.zero_add]
      obtain ⟨w8, hw8⟩ : ∃ w8, w8 = w7.setCell ⟨n, 3, none⟩ (.slice a7 y.members.length c7) := ⟨_, rfl⟩
      obtain ⟨hown7, hu7, hX7⟩ := H7.out
      have hset := upd_set1 w7 n 3 (.slice a7 y.members.length c7)
      have hb8 : Below n wr w8 := by
        have h1 : Below n wr w1 := by rw [← hn]; exact H1.out.1
        rw [hw8]
        exact (h1.trans (hu7.toBelow (by have := H1.out.2.2.1; omega) (fun b e => by omega))).trans (hset.toBelow (by have := hu7.size; have := H1.out.2.2.1; omega) (fun b e => by omega))
      have hX8 : w8.heap[n]? = some (.cells #[.string (bs y.name), .int .i64 y.gen, .int .i64 y.parts, .slice a7 y.members.length c7, .slice pa y.points.length pc] 44 (0, 0)) := by rw [hw8]; exact setCell_same hX7
      have hM8 : w8.ownsRow n 9 1 (.slice a7 y.members.length c7) y.members.length (strCells y.members) := by
        rw [hw8]
        have h := owns_mono (owns_upd hown7 hset (fun g hg e => by have := (owns_lt hown7 g hg).1; omega)) (Nat.le_succ n)
        simpa using h
      rw [← hw8]
      have h8n : n < w8.heap.size := (Array.getElem?_eq_some_iff.1 hX8).1
      obtain ⟨q, hq⟩ : ∃ q, w8.heap.size = q := ⟨_, rfl⟩
      obtain ⟨wb, hwb⟩ : ∃ wb, wb = w8.alloc (.cells #[] 58) := ⟨_, rfl⟩
      have hbb : Below n w8 wb := by rw [hwb]; exact (below_alloc w8 _).mono (by omega)
      have hXb : wb.heap[n]? = some (.cells #[.string (bs y.name), .int .i64 y.gen, .int .i64 y.parts, .slice a7 y.members.length c7, .slice pa y.points.length pc] 44 (0, 0)) := by
        rw [hwb, Below.heap_alloc _ _ _ h8n]; exact hX8
      have hMb : wb.ownsRow n 9 1 (.slice a7 y.members.length c7) y.members.length (strCells y.members) := by rw [hwb]; exact hM8.alloc _
      have hsb : wb.heap.size = q + 1 := by rw [hwb, ← hq]; simp
      have hPb : wb.ownsRow q 58 2 (.slice (some ⟨q, 0, none⟩) 0 0) 0 [] := by
        have := World.ownsRow_made (e := 58) (size := 2) (base := q) w8 #[] 0 (by omega) (Nat.zero_le _) rfl
        rw [hq] at this
        rw [hwb]; exact this
      have hRb : Rd wb 2 (.slice pa y.points.length pc) y.points.length (ptCells y.points) := PtsRd.below HX.out.2.2.2.2.2 (by rw [hn]; exact hb8.trans hbb)
      have cb4 : wb.cell? ⟨n, 4, none⟩ = some (.slice pa y.points.length pc) := cells_of hXb 4 _ rfl
      have cb5 : (w8.alloc (.cells #[] 58)).cell? ⟨n, 4, none⟩ = some (.slice pa y.points.length pc) := by rw [← hwb]; exact cb4
      have fb4 : wb.frozen? ⟨n, 4, none⟩ = false := frozen_of hXb
      have HB := Lib.hid (And.intro (hb8.trans hbb) (And.intro hXb (And.intro hMb (And.intro hsb (And.intro hPb hRb)))))
      have HWB := Lib.hid hwb
      have HQN := Lib.hid (show n < q by omega)
      clear hown7 hu7 hX7 hset hb8 hX8 hM8 hbb hXb hMb hsb hPb hRb hwb H7 H1 HW1 hw8 c13 f13 c73 f73 h8n
      go_upto_region 8 with (first | (at_builtin; rw [← HWB.out]; refine wpList_append_rd rfl _ _ 42 rfl q 58 i2 _ 2 16 und_Points pi pz0 pz1 pz2 rfl (by decide) (.slice (some ⟨q, 0, none⟩) 0 0) 0 [] rfl HB.out.2.2.2.2.1 (.slice pa y.points.length pc) y.points.length (ptCells y.points) rfl HB.out.2.2.2.2.2 (onePts _) ?_ ?_ ?_ ?_; (unfold maxLen; omega); omega; (have := HB.out.2.2.2.1; omega); intro a9 c9 w9 hown9 hgrow9; have hu9 : Upd (fun b => b = q) wb w9 := (upd_grown hgrow9).mono (fun b _ e => by simpa [Value.ownBlock] using e); have hX9 := (hu9.block n (by have := HB.out.2.2.2.1; have := HQN.out; omega) (by have := HQN.out; omega)).trans HB.out.2.1; have c94 : w9.cell? ⟨n, 4, none⟩ = some (.slice pa y.points.length pc) := cells_of hX9 4 _ rfl; have f94 : w9.frozen? ⟨n, 4, none⟩ = false := frozen_of hX9; have H9 := Lib.hid (And.intro hown9 (And.intro hu9 hX9)); clear hown9 hgrow9 hu9 hX9))
      try simp only [Nat.zero_add]
      obtain ⟨wc, hwc⟩ : ∃ wc, wc = w9.setCell ⟨n, 4, none⟩ (.slice a9 y.points.length c9) := ⟨_, rfl⟩
      obtain ⟨hown9, hu9, hX9⟩ := H9.out
      have hqn := HQN.out
      have hsb := HB.out.2.2.2.1
      have hset := upd_set1 w9 n 4 (.slice a9 y.points.length c9)
      have hbc : Below n wr wc := by
        rw [hwc]
        exact (HB.out.1.trans (hu9.toBelow (by omega) (fun b e => by omega))).trans (hset.toBelow (by have := hu9.size; omega) (fun b e => by omega))
      have hXc : wc.heap[n]? = some (.cells #[.string (bs y.name), .int .i64 y.gen, .int .i64 y.parts, .slice a7 y.members.length c7, .slice a9 y.points.length c9] 44 (0, 0)) := by rw [hwc]; exact setCell_same hX9
      have hMc : wc.ownsRow n 9 1 (.slice a7 y.members.length c7) y.members.length (strCells y.members) := by
        rw [hwc]
        have h3 := owns_cells' HB.out.2.2.1
        refine owns_upd (owns_upd HB.out.2.2.1 hu9 (fun g hg e => ?_)) hset (fun g hg e => ?_)
        · obtain ⟨cur, h4⟩ := h3 g hg
          obtain ⟨cur', h5⟩ := owns_cells' HB.out.2.2.2.2.1 q rfl
          rw [e, h5] at h4
          simp at h4
        · obtain ⟨cur, h4⟩ := h3 g hg
          rw [e, HB.out.2.1] at h4
          simp at h4
      have hPc : wc.ownsRow n 58 2 (.slice a9 y.points.length c9) y.points.length (ptCells y.points) := by
        rw [hwc]
        have h := owns_mono (owns_upd hown9 hset (fun g hg e => by have := (owns_lt hown9 g hg).1; omega)) (Nat.le_of_lt hqn)
        simpa using h
      rw [← hwc]
      have d0 : wc.cell? ⟨n, 0, none⟩ = some (.string (bs y.name)) := cells_of hXc 0 _ rfl
      have d1 : wc.cell? ⟨n, 1, none⟩ = some (.int .i64 y.gen) := cells_of hXc 1 _ rfl
      have d2 : wc.cell? ⟨n, 2, none⟩ = some (.int .i64 y.parts) := cells_of hXc 2 _ rfl
      have d3 : wc.cell? ⟨n, 3, none⟩ = some (.slice a7 y.members.length c7) := cells_of hXc 3 _ rfl
      have d4 : wc.cell? ⟨n, 4, none⟩ = some (.slice a9 y.points.length c9) := cells_of hXc 4 _ rfl
      obtain ⟨t1, t2, t3, t4, t5, -⟩ := HX.out
      have hownc : wc.ownsRow w.heap.size 44 5 (.slice va k vc) k (fkCells m) := by
        have h := (t3.below (by rw [hn]; exact hbc)).own
        rw [t1] at h
        exact h
      have hcz : n < wc.heap.size := (Array.getElem?_eq_some_iff.1 hXc).1
      have HZ := Lib.hid (And.intro hbc (And.intro hMc (And.intro hPc hownc)))
      have HT := Lib.hid (And.intro t1 (And.intro t2 (And.intro t3 (And.intro t4 t5))))
      clear hown9 hu9 hX9 hset hbc hXc hMc hPc hownc hwc H9 HB HWB HX hq hqn hsb t1 t2 t3 t4 t5 c94 f94 cb4 cb5 fb4 HQN x0 x1 x2 x3 x4
      go_wp2_with (first | (at_builtin; refine wpList_append_lies _ rfl _ _ 25 rfl w.heap.size 44 i3 _ 5 80 und_Flocks ki kz0 kz1 kz2 rfl (by decide) (.slice va k vc) k (fkCells m) rfl (HZ.out.2.2.2.alloc _) ⟨wc.heap.size, 0, none⟩ 1 1 [.string (bs y.name), .int .i64 y.gen, .int .i64 y.parts, .slice a7 y.members.length c7, .slice a9 y.points.length c9] rfl rfl (World.news_of_block (cs := #[.string (bs y.name), .int .i64 y.gen, .int .i64 y.parts, .slice a7 y.members.length c7, .slice a9 y.points.length c9]) (t := 44) (fr := (0, 0)) (heap_alloc_new wc _)) (by simp [Value.oneCell']) (by decide) ?_ ?_ ?_ _ rfl ?_; (unfold maxLen; omega); (omega); (simp only [World.size_alloc]; omega); intro ga capa wd hownd hgrowd hatd hltd; have hud := (upd_alloc (fun b => some b = (Value.slice va k vc).ownBlock) wc (.cells #[.string (bs y.name), .int .i64 y.gen, .int .i64 y.parts, .slice a7 y.members.length c7, .slice a9 y.points.length c9] 44)).trans (upd_grown hgrowd); have HD := Lib.hid (And.intro hownd hud); clear hownd hgrowd hatd hltd hud))
      go_roundg (L.length - (k + 1))
      case measure => omega
      case rel =>
        obtain ⟨z1, z2, z3, z4⟩ := HZ.out
        obtain ⟨t1, t2, t3, t4, t5⟩ := HT.out
        obtain ⟨e1, e2⟩ := HD.out
        have hsn := t3.snoc (y := y) hsz (by rw [hn]; exact z1) (by rw [hn]; exact z2) (by rw [hn]; exact z3) e2 (by rw [t1]; exact e1)
        refine ⟨k + 1, some ⟨ga, 0, none⟩, capa, m ++ [(.slice a7 y.members.length c7, .slice a9 y.points.length c9, y)], by omega, rfl, by go_num, rfl, by simp [t1], ?_, hsn, ?_⟩
        · rw [List.map_append, t2, t5]; rfl
        · exact t4.trans ((z1.mono (by omega)).trans (e2.toBelow (by omega) (fun b e => (owns_lt z4 b e.symm).1)))
    · have hkl : k = L.length := by omega
      subst hkl
      have i1' : ¬ (L.length : Int) < (L.length : Int) := by omega
      rw [List.take_length] at hmp
      have HX := Lib.hid (And.intro hml (And.intro hmp (And.intro hown hbel)))
      clear hml hmp hown hbel
      go_wp2
      go_ret
      exact ⟨_, rfl, ⟨m, HX.out.2.1, HX.out.2.2.1⟩, HX.out.2.2.2⟩
end Go.Proofs.YtdchjepahgecgaaGreatDoor
