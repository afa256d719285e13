/- The walk of ledger.Decode. -/
import Derived.Test.YtjkobbmdemooaaaGreatDoorLedEn
import Derived.Test.YtjkobbmdemooaaaGreatDoorBeadWm
namespace Go.Proofs.YtjkobbmdemooaaaGreatDoor
open Go.RowKit

def tt (_ : Nat) : Bool := true

/-- The loop over rows: where it stands. -/
def RowsSt (w0 : World) (s : List UInt8) (R : List (Int × List Slot) × RS) (ok5 ok64 : Nat → Bool) (out : Value) (st : RS) (acc : List (Int × List Slot)) (wr : World) : Prop :=
  ∃ f mm, fuel st ≤ f ∧ many (rdRow ok5) ok64 f st acc = R ∧ acc.length + fuel st ≤ s.length + 1 ∧ mm.length = acc.length ∧
    wr.ownsRow (w0.heap.size + 1) 105 2 out mm.length (seenCells mm) ∧ MRel wr mm acc ∧ Below w0.heap.size w0 wr

/-- The loop over a row's slots: where it stands (x lies in block bx, the world wo is that in which the row begins). -/
def SlotsSt (N bx : Nat) (wo : World) (s : List UInt8) (p : Int) (R : List Slot × RS) (ok5 : Nat → Bool) (st : RS) (l : List Slot) (wr : World) : Prop :=
  ∃ f sv, fuel st ≤ f ∧ many rdSlot ok5 f st l = R ∧ l.length + fuel st ≤ s.length + 1 ∧ wr.heap[bx]? = some (.cells #[.int .i64 p, sv] 105 (0, 0)) ∧
    wr.ownsRow (bx + 1) 69 3 sv l.length (rowCells l) ∧ Upd (fun k => k = N) wo wr

def decErr : Option (List (Int × List Slot)) → Int
  | some _ => 0
  | none => 3

def Decoded (w : World) (o : Option (List (Int × List Slot))) (e : Ending) (w' : World) : Prop :=
  ∃ v', e = .returned (.tuple #[v', .int .i64 (decErr o)]) ∧ SeensRd w' v' (o.getD []) ∧ Below w.heap.size w w'

theorem RdAt.drew {w : World} {p : Nat} {st : RS} (h : RdAt w p st) : RdAt w.drew p st := h
theorem RdAt.upd {w w' : World} {p : Nat} {st : RS} {F : Nat → Prop} (h : RdAt w p st) (hu : Upd F w w') (hF : ¬ F p) : RdAt w' p st := (hu.block p h.lt hF).trans h

theorem rows_upd {w w' : World} {N B : Nat} {st : RS} {out : Value} {mm : List (Int × Value)} {acc : List (Int × List Slot)} (hR : RdAt w N st) (hu : Upd (fun k => k = N) w w') (hB : N < B)
    (hown : w.ownsRow B 105 2 out mm.length (seenCells mm)) (hrel : MRel w mm acc) : w'.ownsRow B 105 2 out mm.length (seenCells mm) ∧ MRel w' mm acc := by
  refine ⟨owns_upd hown hu (fun g hg e => ?_), hrel.keptT hu ?_⟩
  · have := (owns_lt hown g hg).1
    omega
  · rintro k cur fz hk rfl
    rw [show w.heap[k]? = _ from hR] at hk
    simp at hk

theorem seens_of {w : World} {B : Nat} {out : Value} {mm : List (Int × Value)} {acc : List (Int × List Slot)} (hown : w.ownsRow B 105 2 out mm.length (seenCells mm)) (hrel : MRel w mm acc) : SeensRd w out acc :=
  SeensAt.rd ⟨mm, Sl.of_owns hown, hrel⟩

theorem keepD {N bx : Nat} {w5 w8 w9 : World} {o : Obj} {r : Option Nat} {sv : Value} {ob : Obj}
    (hK : ∀ w', Upd (fun k => k = N) w5 w' → w'.cell? ⟨bx, 1, none⟩ = some sv ∧ w'.frozen? ⟨bx, 1, none⟩ = false) (hx : w5.heap[bx]? = some ob)
    (hu : Upd (fun k => k = N) w5 w8) (hg : (w8.alloc o).grownBy w9 r) (hr : ∀ g, r = some g → bx + 1 ≤ g ∧ g < w5.heap.size) :
    w9.cell? ⟨bx, 1, none⟩ = some sv ∧ w9.frozen? ⟨bx, 1, none⟩ = false := by
  obtain ⟨h1, h2⟩ := hK _ (hu.trans (upd_alloc _ w8 o))
  have hlt : bx < (w8.alloc o).heap.size := by
    have := (Array.getElem?_eq_some_iff.1 hx).1
    have := hu.size
    simp only [World.size_alloc]; omega
  have hbk := (upd_grown hg).block bx hlt (fun e => by have := (hr _ e.symm).1; omega)
  exact ⟨(World.cell?_of_block hbk).trans h1, (World.frozen?_of_block hbk).trans h2⟩

theorem rows_snoc {w5 w6 : World} {B B' : Nat} {out out' : Value} {mm : List (Int × Value)} {acc : List (Int × List Slot)} {p : Int} {sv : Value} {l : List Slot} {o : Obj}
    (hown : w5.ownsRow B 105 2 out mm.length (seenCells mm)) (hrel : MRel w5 mm acc) (hrow : w5.ownsRow B' 69 3 sv l.length (rowCells l))
    (hg : (w5.alloc o).grownBy w6 out.ownBlock) (hown6 : w6.ownsRow B 105 2 out' (mm.length + 1) (seenCells mm ++ [.int .i64 p, sv])) :
    w6.ownsRow B 105 2 out' (mm ++ [(p, sv)]).length (seenCells (mm ++ [(p, sv)])) ∧ MRel w6 (mm ++ [(p, sv)]) (acc ++ [(p, l)]) := by
  have hu : Upd (fun k => some k = out.ownBlock) w5 w6 := (upd_alloc _ w5 o).trans (upd_grown hg)
  have hF : ∀ k cur fz, w5.heap[k]? = some (.cells cur 69 fz) → ¬ some k = out.ownBlock := by
    intro k cur fz hb e
    rcases hown.2 with ⟨rfl, _⟩ | ⟨g, cap, cur', rfl, _, hg', _⟩
    · simp [Value.ownBlock] at e
    · simp only [Value.ownBlock, Option.some.injEq] at e
      subst e
      rw [hg'] at hb
      simp at hb
  refine ⟨?_, (hrel.keptT hu hF).snoc rfl (Sl.keptT (Sl.of_owns hrow) hu hF)⟩
  have e : seenCells (mm ++ [(p, sv)]) = seenCells mm ++ [.int .i64 p, sv] := by simp [seenCells]
  rw [e, List.length_append]; exact hown6

theorem slots_snoc {N bx : Nat} {w4 w5 w8 w9 : World} {p : Int} {sv sv' : Value} {l : List Slot} {y0 y1 y2 : Int} {st8 : RS} {o : Obj}
    (hNb : N < bx) (hbx : bx = w4.heap.size) (hu45 : Upd (fun k => k = N) w4 w5) (hu58 : Upd (fun k => k = N) w5 w8)
    (hx5 : w5.heap[bx]? = some (.cells #[.int .i64 p, sv] 105 (0, 0))) (hR8 : RdAt w8 N st8) (hr : ∀ g, sv.ownBlock = some g → bx + 1 ≤ g ∧ g < w5.heap.size)
    (hg : (w8.alloc o).grownBy w9 sv.ownBlock) (hown9 : w9.ownsRow (bx + 1) 69 3 sv' (l.length + 1) (rowCells l ++ [.int .i64 y0, .int .i64 y1, .int .i64 y2])) :
    RdAt (w9.setCell ⟨bx, 1, none⟩ sv') N st8 ∧ (w9.setCell ⟨bx, 1, none⟩ sv').heap[bx]? = some (.cells #[.int .i64 p, sv'] 105 (0, 0)) ∧
      (w9.setCell ⟨bx, 1, none⟩ sv').ownsRow (bx + 1) 69 3 sv' (l ++ [(⟨y0, y1, y2⟩ : Slot)]).length (rowCells (l ++ [⟨y0, y1, y2⟩])) ∧ Upd (fun k => k = N) w4 (w9.setCell ⟨bx, 1, none⟩ sv') := by
  have hlt5 : bx < w5.heap.size := (Array.getElem?_eq_some_iff.1 hx5).1
  have hne : bx ≠ N := by omega
  have hs58 := hu58.size
  have hu89 : Upd (fun k => some k = sv.ownBlock) w8 w9 := (upd_alloc _ w8 o).trans (upd_grown hg)
  have hx8 := (hu58.block bx hlt5 (by omega)).trans hx5
  have hx9 := (hu89.block bx (by omega) (fun e => by have := (hr _ e.symm).1; omega)).trans hx8
  have hR9 : RdAt w9 N st8 := hR8.upd hu89 (fun e => by have := (hr _ e.symm).1; omega)
  have hset : Upd (fun k => k = bx) w9 (w9.setCell ⟨bx, 1, none⟩ sv') := upd_setCell (F := fun k => k = bx) (Upd.refl _ _) rfl sv'
  refine ⟨hR9.upd hset (by omega), ?_, ?_, ?_⟩
  · rw [setCell_same hx9]; rfl
  · have e : rowCells (l ++ [⟨y0, y1, y2⟩]) = rowCells l ++ [.int .i64 y0, .int .i64 y1, .int .i64 y2] := by simp [rowCells, Slot.cells]
    rw [e, List.length_append]
    exact owns_upd hown9 hset (fun g hg' => by have := (owns_lt hown9 g hg').1; omega)
  · have h1 : Upd (fun k => k = N ∨ bx ≤ k) w4 w5 := hu45.mono (fun k _ h => .inl h)
    have h2 : Upd (fun k => k = N ∨ bx ≤ k) w5 w8 := hu58.mono (fun k _ h => .inl h)
    have h3 : Upd (fun k => k = N ∨ bx ≤ k) w8 w9 := hu89.mono (fun k _ h => .inr (by have := (hr _ h.symm).1; omega))
    have h4 : Upd (fun k => k = N ∨ bx ≤ k) w9 (w9.setCell ⟨bx, 1, none⟩ sv') := hset.mono (fun k _ h => .inr (by omega))
    exact (((h1.trans h2).trans h3).trans h4).mono (fun k hk h => h.elim id (fun h => by omega))

theorem seens_nil (w : World) : SeensRd w (.slice none 0 0) [] := SeensAt.rd ⟨[], ⟨rfl, .inl ⟨rfl, rfl⟩⟩, trivial⟩

theorem below_updN {n B : Nat} {w a b : World} (h : Below n w a) (hu : Upd (fun k => k = B) a b) (hB : n ≤ B) (hn : n ≤ a.heap.size) : Below n w b :=
  h.trans ⟨hu.os, hu.tape, hu.output, hu.size, fun k hk => hu.block k (by omega) (by omega)⟩

set_option maxRecDepth 100000 in
set_option maxHeartbeats 2000000 in
theorem LedDecode_any {w : World} (s : List UInt8) (hs : s.length ≤ 1048576) (hE : Env w) :
    Calls Tryz.prog 29 #[.string (bs s)] w (Decoded w (decT tt tt s)) := by
  have brint : ∀ w' p st, RdAt w' p st → fuel st ≤ s.length + 1 → Below w.heap.size w w' → Calls Tryz.prog 59 #[.pointer (some ⟨p, 0, none⟩)] w' fun e w2 => e = .returned (.int .i64 (rdI st).1) ∧ RdAt w2 p (rdI st).2 ∧ Upd (fun k => k = p) w' w2 :=
    fun w' p st h hf hb => BrInt_any h (by omega) (hE.below hb)
  have HBI := Lib.hid brint
  obtain ⟨i0, hi, hz0, hz1, hz2⟩ := info_parts info_Slot
  obtain ⟨i1, ki, kz0, kz1, kz2⟩ := info_parts info_Seen
  clear brint hE
  go_enter Tryz.func29, Tryz.ntmps29
  go_wp2_with fail
  refine (BNew_any s w).mono ?_
  rintro e w1 ⟨rfl, hR1, hb1⟩
  go_wp2_with fail
  refine (BrOpen_any hR1).mono ?_
  rintro e w2 ⟨rfl, hR2, hu2⟩
  have hzw := hb1.size
  have hN := hR1.lt
  have hb2 : Below w.heap.size w w2 := below_updN hb1 hu2 (Nat.le_refl _) hzw
  have hf0 := rdS_le 108 (s, false)
  have hf1 : fuel (s, false) = s.length + 1 := by simp [fuel]
  have hN2 := hR2.lt
  obtain ⟨st0, hst0⟩ : ∃ st0, rdS 108 (s, false) = st0 := ⟨_, rfl⟩
  obtain ⟨RR, hRR⟩ : ∃ RR, rdRows tt tt st0 = RR := ⟨_, rfl⟩
  have hTb : rdTable tt tt s = (RR.1, rdS 101 RR.2) := by unfold rdTable; rw [hst0, hRR]
  rw [hst0] at hR2 hf0
  have HR := Lib.hid hTb
  have HRR := Lib.hid hRR
  clear hR1 hb1 hu2 hst0 hTb hRR
  go_wp2
  go_loopg [5, 6] (fuel st0) (fun gk out _ wr => ∃ st acc, gk = fuel st ∧ RdAt wr w.heap.size st ∧ RowsSt w s RR tt tt out st acc wr)
  case atStart => exact ⟨st0, [], rfl, hR2, fuel st0, [], Nat.le_refl _, HRR.out, by simp; omega, rfl, World.ownsRow_nil _ _ _ _, trivial, hb2⟩
  case round =>
    obtain ⟨st, acc, rfl, hR, f, mm, hf, hm, hlen, hml, hown, hrel', hbel⟩ := hrel
    obtain ⟨wo, hwo⟩ : ∃ wo, wo = wr := ⟨_, rfl⟩
    subst hwo
    have HX := Lib.hid (And.intro hm (And.intro hml (And.intro hown hrel')))
    clear hm hml hown hrel'
    have hsz := hbel.size
    cases hM : rdM st with
    | false =>
      have HM := Lib.hid hM
      go_wp2_with fail
      refine (BrMore_any hR).mono ?_
      rintro e wo ⟨rfl, rfl⟩
      rw [HM.out]
      have hstop := many_stop (step := rdRow tt) (ok := tt) (acc := acc) f (.inl hM)
      rw [HX.out.1] at hstop
      have hdec : decT tt tt s = if rdD (rdS 101 st) = true ∧ isTableB acc = true then some acc else none := by
        unfold decT
        rw [HR.out, hstop]
      have HD := Lib.hid hdec
      clear hdec hstop hM HM
      go_wp2_with fail
      refine (BrClose_any hR).mono ?_
      rintro e w4 ⟨rfl, hR4, hu4⟩
      have hb4 : Below w.heap.size w w4 := below_updN hbel hu4 (Nat.le_refl _) hsz
      obtain ⟨hown4, hrel4⟩ := rows_upd hR hu4 (Nat.lt_succ_self _) HX.out.2.2.1 HX.out.2.2.2
      have hseen := seens_of hown4 hrel4
      have HT := Lib.hid (LedisTable_any hseen)
      have HS := Lib.hid hseen
      have hout := hseen
      obtain ⟨oa, oc, rfl, -, -⟩ := hseen.cells
      clear hown4 hrel4 hout hseen hu4
      cases hD : rdD (rdS 101 st) with
      | false =>
        have HDD := Lib.hid hD
        rw [hD] at HD
        have hdn := HD.out
        rw [if_neg (by simp)] at hdn
        have HDN := Lib.hid hdn
        clear hD HD hdn
        go_wp2_with (first | (go_at_call 61; refine (BrDone_any hR4).mono ?_; rintro e w5 ⟨rfl, rfl⟩; rw [HDD.out, if_neg (by decide)]))
        exact bodyPost_ret (v := .tuple #[.slice none 0 0, .int .i64 3]) (by simp [results, Tryz.results29, go_sem]) rfl ⟨_, by rw [HDN.out]; rfl, by rw [HDN.out]; exact seens_nil _, hb4⟩
      | true =>
        have HDD := Lib.hid hD
        rw [hD] at HD
        clear hD
        cases hTB : isTableB acc with
        | false =>
          rw [hTB] at HD HT
          have hdn := HD.out
          rw [if_neg (by simp)] at hdn
          have HDN := Lib.hid hdn
          clear HD hTB hdn
          go_wp2_with (first | (go_at_call 61; refine (BrDone_any hR4).mono ?_; rintro e w5 ⟨rfl, rfl⟩; rw [HDD.out, if_pos rfl]) | (go_at_call 66; refine HT.out.mono ?_; rintro e w6 ⟨rfl, hb6⟩))
          exact bodyPost_ret (v := .tuple #[.slice none 0 0, .int .i64 3]) (by simp [results, Tryz.results29, go_sem]) rfl ⟨_, by rw [HDN.out]; rfl, by rw [HDN.out]; exact seens_nil _, below_trans hb4 hb6⟩
        | true =>
          rw [hTB] at HD HT
          have hdn := HD.out
          rw [if_pos (by simp)] at hdn
          have HDN := Lib.hid hdn
          clear HD hTB hdn
          go_wp2_with (first | (go_at_call 61; refine (BrDone_any hR4).mono ?_; rintro e w5 ⟨rfl, rfl⟩; rw [HDD.out, if_pos rfl]) | (go_at_call 66; refine HT.out.mono ?_; rintro e w6 ⟨rfl, hb6⟩))
          exact bodyPost_ret (v := .tuple #[.slice oa acc.length oc, .int .i64 0]) (by simp [results, Tryz.results29, go_sem]) rfl ⟨_, by rw [HDN.out]; rfl, by rw [HDN.out]; exact HS.out.below hb6, below_trans hb4 hb6⟩
    | true =>
      go_wp2_with fail
      refine (BrMore_any hR).mono ?_
      rintro e wo ⟨rfl, rfl⟩
      rw [hM]
      go_wp2_with fail
      refine (BrOpen_any hR).mono ?_
      rintro e w3 ⟨rfl, hR3, hu3⟩
      have hb3 : Below w.heap.size w w3 := below_updN hbel hu3 (Nat.le_refl _) hsz
      go_wp2_with fail
      refine (HBI.out _ _ _ hR3 (by have := rdS_le 108 st; omega) hb3).mono ?_
      rintro e w4 ⟨rfl, hR4, hu4⟩
      have hb4 : Below w.heap.size w w4 := below_updN hb3 hu4 (Nat.le_refl _) hb3.size
      have hu34 : Upd (fun k => k = w.heap.size) wo w4 := hu3.trans hu4
      have hrow : rdRow tt st = (((rdI (rdS 108 st)).1, (rdSlots tt (rdI (rdS 108 st)).2).1), rdS 101 (rdSlots tt (rdI (rdS 108 st)).2).2) := rfl
      have hq1 := rdS_lt (c := 108) (rdM_ok hM)
      have hq2 := rdI_le (rdS 108 st)
      have hgo := many_go (step := rdRow tt) (ok := tt) (acc := acc) (rdRow_lt tt) hM rfl hf
      rw [HX.out.1] at hgo
      have hlt := rdRow_lt tt st (rdM_ok hM)
      have HGO := Lib.hid (And.intro hrow (And.intro hgo hlt))
      have HWO := Lib.hid (And.intro hR (And.intro hu34 hb4))
      clear hrow hgo hlt hR3 hu3 hu4 hb3 hR
      generalize (rdI (rdS 108 st)).1 = p at *
      generalize (rdI (rdS 108 st)).2 = st4 at *
      generalize hR2 : rdSlots tt st4 = R2 at *
      have HR2 := Lib.hid hR2
      clear hR2
      have hN4 := hR4.lt
      have hf4 : fuel st4 ≤ s.length := by omega
      clear hq1 hq2
      have hbj : ∀ w' st' a st2, rdI st' = (a, st2) → RdAt w' w.heap.size st' → fuel st' ≤ s.length + 1 → Upd (fun k => k = w.heap.size) w4 w' → Calls Tryz.prog 59 #[.pointer (some ⟨w.heap.size, 0, none⟩)] w' fun e w2 => e = .returned (.int .i64 a) ∧ RdAt w2 w.heap.size st2 ∧ Upd (fun k => k = w.heap.size) w' w2 := by
        intro w' st' a st2 hrd hR' hf' hu'
        have := HBI.out w' _ st' hR' hf' (below_updN HWO.out.2.2 hu' (Nat.le_refl _) HWO.out.2.2.size)
        rw [hrd] at this
        exact this
      have HBJ := Lib.hid hbj
      clear hbj
      go_wp2
      go_loopg [] (fuel st4) (fun gk wr => ∃ st' l, gk = fuel st' ∧ RdAt wr w.heap.size st' ∧ SlotsSt w.heap.size w4.heap.size w4 s p R2 tt st' l wr)
      case atStart => exact ⟨st4, [], rfl, hR4.below (below_alloc w4 _), fuel st4, .slice none 0 0, Nat.le_refl _, HR2.out, by simp; omega, heap_alloc_new _ _, World.ownsRow_nil _ _ _ _, upd_alloc _ _ _⟩
      case round =>
        obtain ⟨st', l, rfl, hR', f', sv, hf', hm', hlen', hbx, hown', hu'⟩ := hrel
        obtain ⟨sa, sc, rfl, -⟩ := (Sl.of_owns hown').shape
        have HY := Lib.hid (And.intro hm' (And.intro hown' hu'))
        clear hm' hown' hu'
        cases hM' : rdM st' with
        | false =>
          have HM := Lib.hid hM'
          go_wp2_with fail
          refine (BrMore_any hR').mono ?_
          rintro e wr ⟨rfl, rfl⟩
          rw [HM.out]
          go_wp2_with fail
          refine (BrClose_any hR').mono ?_
          rintro e w5 ⟨rfl, hR5, hu5⟩
          have hbN : w4.heap.size ≠ w.heap.size := by omega
          have hlt4 := (Array.getElem?_eq_some_iff.1 hbx).1
          have hx5 := (hu5.block w4.heap.size hlt4 hbN).trans hbx
          have x0 : w5.cell? ⟨w4.heap.size, 0, none⟩ = some (.int .i64 p) := by rw [cell_of_row w5 _ 0 _ _ _ hx5]; rfl
          have x1 : w5.cell? ⟨w4.heap.size, 1, none⟩ = some (.slice sa l.length sc) := by rw [cell_of_row w5 _ 1 _ _ _ hx5]; rfl
          have hstop := many_stop (step := rdSlot) (ok := tt) (acc := l) f' (.inl hM')
          rw [HY.out.1] at hstop
          have hown5 := owns_upd HY.out.2.1 hu5 (fun g hg => by have := (owns_lt HY.out.2.1 g hg).1; omega)
          have hu4 := HY.out.2.2.trans hu5
          have hup := HWO.out.2.1.trans hu4
          obtain ⟨hownT, hrelT⟩ := rows_upd HWO.out.1 hup (Nat.lt_succ_self _) HX.out.2.2.1 HX.out.2.2.2
          have hsz5 := hu4.size
          have HO := Lib.hid (And.intro hownT (And.intro hrelT (And.intro hown5 hstop)))
          clear hownT hrelT hown5 hstop hx5 hM'
          have hb5 : Below w.heap.size w w5 := below_updN hbel hup (Nat.le_refl _) hsz
          have hmm : mm.length ≤ 1048577 := by have := HX.out.2.1; omega
          go_wp2_with (at_builtin; refine wpList_append_lies _ rfl _ _ 48 rfl (w.heap.size + 1) 105 i1 _ 2 32 und_Seens ki kz0 kz1 kz2 rfl (by decide) u5 mm.length (seenCells mm) rfl (HO.out.1.alloc _) ⟨w5.heap.size, 0, none⟩ 1 1 [.int .i64 p, .slice sa l.length sc] rfl rfl (World.news_of_block (cs := #[.int .i64 p, .slice sa l.length sc]) (t := 105) (fr := (0, 0)) (heap_alloc_new w5 _)) (by simp [Value.oneCell']) (by decide) ?_ ?_ ?_ _ rfl ?_; (unfold maxLen; omega); omega; (simp only [World.size_alloc]; omega); intro g6 gcap6 w6 hown6 hgrow6 hat6 hlt6; have D := Lib.hid (And.intro hown6 hgrow6); clear hown6 hgrow6 hat6 hlt6)
          obtain ⟨hown6, hgrow6⟩ := D.out
          obtain ⟨hown7, hrel7⟩ := rows_snoc HO.out.1 HO.out.2.1 HO.out.2.2.1 hgrow6 hown6
          have hlt6 := owns_lt HO.out.1
          have hR7 : RdAt w6 w.heap.size (rdS 101 st') := hR5.upd ((upd_alloc _ w5 _).trans (upd_grown hgrow6)) (fun e => by have := (hlt6 _ e.symm).1; omega)
          have hb7 : Below w.heap.size w w6 := (hb5.alloc (by omega) _).grown hgrow6 (by simp only [World.size_alloc]; omega) (fun k e => by have := (hlt6 k e).1; omega)
          obtain ⟨hrow, ⟨f7, hf7, hf8⟩, hlt7⟩ := HGO.out
          rw [HO.out.2.2.2] at hrow
          rw [hrow] at hf7 hf8 hlt7
          dsimp only at hf7 hf8 hlt7
          have HFIN := Lib.hid (And.intro hown7 (And.intro hrel7 (And.intro hR7 (And.intro hb7 (And.intro hf7.symm hf8)))))
          clear hown6 hgrow6 hown7 hrel7 hlt6 hR7 hb7 hrow hf7 hf8 D
          go_roundg (fuel (rdS 101 st'))
          case measure => exact hlt7
          case rel => exact ⟨_, acc ++ [(p, l)], rfl, HFIN.out.2.2.1, f7, mm ++ [(p, .slice sa l.length sc)], HFIN.out.2.2.2.2.2, HFIN.out.2.2.2.2.1, (by simp only [List.length_append, List.length_singleton]; omega), (by rw [List.length_append, List.length_append, HX.out.2.1]; rfl), HFIN.out.1, HFIN.out.2.1, HFIN.out.2.2.2.1⟩
        | true =>
          have HM := Lib.hid hM'
          go_wp2_with fail
          refine (BrMore_any hR').mono ?_
          rintro e wr ⟨rfl, rfl⟩
          rw [HM.out]
          go_wp2_with fail
          refine (BrOpen_any hR').mono ?_
          rintro e w5 ⟨rfl, hR5, hu5⟩
          have hq0 := rdS_le 108 st'
          have hq5 := rdI_le (rdS 108 st')
          have hq6 := rdI_le (rdI (rdS 108 st')).2
          have hslot : rdSlot st' = (⟨(rdI (rdS 108 st')).1, (rdI (rdI (rdS 108 st')).2).1, (rdI (rdI (rdI (rdS 108 st')).2).2).1⟩, rdS 101 (rdI (rdI (rdI (rdS 108 st')).2).2).2) := rfl
          have hgo' := many_go (step := rdSlot) (ok := tt) (acc := l) rdSlot_lt hM' rfl hf'
          rw [HY.out.1] at hgo'
          have hlt' := rdSlot_lt st' (rdM_ok hM')
          obtain ⟨st5, h5⟩ : ∃ st5, rdS 108 st' = st5 := ⟨_, rfl⟩
          rw [h5] at hR5 hq0 hq5 hq6 hslot
          obtain ⟨y0, st6, h6⟩ : ∃ a b, rdI st5 = (a, b) := ⟨_, _, rfl⟩
          rw [h6] at hq5 hq6 hslot
          dsimp only at hq5 hq6 hslot
          obtain ⟨y1, st7, h7⟩ : ∃ a b, rdI st6 = (a, b) := ⟨_, _, rfl⟩
          rw [h7] at hq6 hslot
          dsimp only at hq6 hslot
          obtain ⟨y2, st8, h8⟩ : ∃ a b, rdI st7 = (a, b) := ⟨_, _, rfl⟩
          rw [h8] at hslot
          dsimp only at hslot
          rw [hslot] at hgo' hlt'
          have HG := Lib.hid (And.intro hgo' hlt')
          have H6 := Lib.hid h6
          have H7 := Lib.hid h7
          have H8 := Lib.hid h8
          have hu45 : Upd (fun k => k = w.heap.size) w4 w5 := HY.out.2.2.trans hu5
          have hbN : w4.heap.size ≠ w.heap.size := by omega
          have hx5 := (hu5.block w4.heap.size (Array.getElem?_eq_some_iff.1 hbx).1 hbN).trans hbx
          have hown5 := owns_upd HY.out.2.1 hu5 (fun g hg => by have := (owns_lt HY.out.2.1 g hg).1; omega)
          have HO5 := Lib.hid (And.intro hown5 (And.intro hu45 hu5))
          clear hgo' hlt' h5 h6 h7 h8 hslot hown5 hu45 hu5 hR' hbx
          have c5 : w5.cell? ⟨w4.heap.size, 1, none⟩ = some (.slice sa l.length sc) := by rw [cell_of_row w5 _ 1 _ _ _ hx5]; rfl
          have f5 : w5.frozen? ⟨w4.heap.size, 1, none⟩ = false := by simp [World.frozen?, hx5]
          have hkeep : ∀ w', Upd (fun k => k = w.heap.size) w5 w' → w'.cell? ⟨w4.heap.size, 1, none⟩ = some (.slice sa l.length sc) ∧ w'.frozen? ⟨w4.heap.size, 1, none⟩ = false := by
            intro w' hu
            have hbk := hu.block w4.heap.size (Array.getElem?_eq_some_iff.1 hx5).1 hbN
            exact ⟨(World.cell?_of_block hbk).trans c5, (World.frozen?_of_block hbk).trans f5⟩
          have HK := Lib.hid hkeep
          have hlt5 : w4.heap.size < w5.heap.size := (Array.getElem?_eq_some_iff.1 hx5).1
          have hll : l.length ≤ 1048577 := by omega
          clear hkeep
          go_wp2
          have c5d : w5.drew.cell? ⟨w4.heap.size, 1, none⟩ = some (.slice sa l.length sc) := c5
          go_region_law
            (first
              | (go_simp; go_at_call 59; have hg := hR7; refine (HBJ.out _ _ _ _ H8.out hR7 (by omega) (HO5.out.2.1.trans hu57)).mono ?_; rintro e w8 ⟨rfl, hR8, hu8⟩; have hu58 := hu57.trans hu8; obtain ⟨c8, f8⟩ := HK.out _ hu58; have c8a : ∀ o, (w8.alloc o).cell? ⟨w4.heap.size, 1, none⟩ = some (.slice sa l.length sc) := fun o => (HK.out _ (hu58.trans (upd_alloc _ w8 o))).1)
              | (go_simp; go_at_call 59; have hg := hR6; refine (HBJ.out _ _ _ _ H7.out hR6 (by omega) (HO5.out.2.1.trans hu56)).mono ?_; rintro e w7 ⟨rfl, hR7, hu7⟩; have hu57 := hu56.trans hu7; obtain ⟨c7, f7⟩ := HK.out _ hu57)
              | (go_simp; go_at_call 59; refine (HBJ.out _ _ _ _ H6.out hR5.drew (by omega) (HO5.out.2.1.trans (upd_drew _ _))).mono ?_; rintro e w6 ⟨rfl, hR6, hu56'⟩; have hu56 := (upd_drew _ w5).trans hu56'; obtain ⟨c6, f6⟩ := HK.out _ hu56)
              | (refine step_append_lies _ (by rfl) _ _ _ (by rfl) (w4.heap.size + 1) 69 i0 _ 3 24 und_Slots hi hz0 hz1 hz2 rfl (by omega) (.slice sa l.length sc) l.length (rowCells l) (by rfl) ((owns_upd HO5.out.1 hu58 (fun g hg => by have := (owns_lt HO5.out.1 g hg).1; omega)).alloc _) ⟨w8.heap.size, 0, none⟩ 1 1 [.int .i64 y0, .int .i64 y1, .int .i64 y2] (by rfl) (by rfl) (World.news_of_block (cs := #[.int .i64 y0, .int .i64 y1, .int .i64 y2]) (t := 69) (fr := (0, 0)) (heap_alloc_new w8 _)) (by simp [Value.oneCell']) (by omega) ?_ ?_ ?_ _ rfl ?_; (unfold maxLen; omega); omega; (have := hu58.size; simp only [World.size_alloc]; omega); rintro g9 gcap9 w9 hown9 hgrow9 - hlt9; obtain ⟨c9, f9⟩ : w9.cell? ⟨w4.heap.size, 1, none⟩ = some (.slice sa l.length sc) ∧ w9.frozen? ⟨w4.heap.size, 1, none⟩ = false := keepD HK.out hx5 hu58 hgrow9 (owns_lt HO5.out.1)))
          all_goals
            obtain ⟨z1, z2, z3, z4⟩ := slots_snoc (by omega) rfl HO5.out.2.1 hu58 hx5 hR8 (owns_lt HO5.out.1) hgrow9 hown9
            have HZ := Lib.hid (And.intro z2 (And.intro z3 z4))
            clear z2 z3 z4 hgrow9 hown9 c5d c8a c9 f9 hlt9 c5 c6 c7 c8 f5 f6 f7 f8 hu56 hu57 hu58 hR5 hR6 hR7 hR8 hx5
            go_wp2_with fail
            refine (BrClose_any z1).mono ?_
            rintro e w10 ⟨rfl, hR10, hu10⟩
            have hx10 := (hu10.block w4.heap.size (Array.getElem?_eq_some_iff.1 HZ.out.1).1 hbN).trans HZ.out.1
            have hown10 := owns_upd HZ.out.2.1 hu10 (fun g hg => by have := (owns_lt HZ.out.2.1 g hg).1; omega)
            obtain ⟨⟨f2, hf2, hf3⟩, hlt2⟩ := HG.out
            have HFIN := Lib.hid (And.intro hx10 (And.intro hown10 (And.intro (HZ.out.2.2.trans hu10) (And.intro hf2.symm (And.intro hf3 hlt2)))))
            clear hx10 hown10 hu10 hf2 hf3 z1
            go_wp2
            go_roundg (fuel (rdS 101 st8))
            case measure => exact hlt2
            case rel => exact ⟨_, l ++ [⟨y0, y1, y2⟩], rfl, hR10, f2, _, HFIN.out.2.2.2.2.1, HFIN.out.2.2.2.1, (by simp only [List.length_append, List.length_singleton]; omega), HFIN.out.1, HFIN.out.2.1, HFIN.out.2.2.1⟩
end Go.Proofs.YtjkobbmdemooaaaGreatDoor
