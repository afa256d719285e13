/- The walk of the reference's Decode. -/
import Derived.Test.YtjkobbmdemooaaaGreatDoorBeadR4
import Derived.Test.YtjkobbmdemooaaaGreatDoorLedDe
import Derived.Test.YtjkobbmdemooaaaGreatDoorLedE3
namespace Go.Proofs.YtjkobbmdemooaaaGreatDoor
open Go.RowKit

def ok6 (i : Nat) : Bool := decide (i < 6)
def ok65 (i : Nat) : Bool := decide (i < 65)

theorem RfSt.upd {w w' : World} {p : Nat} {S : List UInt8} {st : RS} {F : Nat → Prop} (h : RfSt w p S st) (hu : Upd F w w') (hF : ¬ F p) : RfSt w' p S st := by
  obtain ⟨k, hk, e, hA⟩ := h
  exact ⟨k, hk, e, (hu.block p hA.lt hF).trans hA⟩
theorem RfSt.lt {w : World} {p : Nat} {S : List UInt8} {st : RS} (h : RfSt w p S st) : p < w.heap.size := by
  obtain ⟨k, hk, e, hA⟩ := h
  exact hA.lt
theorem RfSt.nt {w : World} {p : Nat} {S : List UInt8} {st : RS} (h : RfSt w p S st) : ∀ cur fz, w.heap[p]? ≠ some (.cells cur 69 fz) := by
  obtain ⟨k, hk, e, hA⟩ := h
  intro cur fz hh
  rw [show w.heap[p]? = _ from hA] at hh
  simp at hh

theorem rows_updT {w w' : World} {N B : Nat} {out : Value} {mm : List (Int × Value)} {acc : List (Int × List Slot)} (hN : ∀ cur fz, w.heap[N]? ≠ some (.cells cur 69 fz)) (hu : Upd (fun k => k = N) w w') (hB : N < B)
    (hown : w.ownsRow B 105 2 out mm.length (seenCells mm)) (hrel : MRel w mm acc) : w'.ownsRow B 105 2 out mm.length (seenCells mm) ∧ MRel w' mm acc := by
  refine ⟨owns_upd hown hu (fun g hg e => ?_), hrel.keptT hu ?_⟩
  · have := (owns_lt hown g hg).1
    omega
  · rintro k cur fz hk rfl
    exact hN cur fz hk

/-- While a slot is read: the reader, the row x (block bx), the slot y (block yb). -/
structure YSt (N bx yb : Nat) (w3 : World) (S : List UInt8) (st : RS) (p : Int) (sv : Value) (l : List Slot) (a b c : Int) (w : World) : Prop where
  rf : RfSt w N S st
  hx : w.heap[bx]? = some (.cells #[.int .i64 p, sv] 105 (0, 0))
  hy : w.heap[yb]? = some (.cells #[.int .i64 a, .int .i64 b, .int .i64 c] 69 (0, 0))
  own : w.ownsRow (bx + 1) 69 3 sv l.length (rowCells l)
  lt : ∀ g, sv.ownBlock = some g → g < yb
  up : Upd (fun k => k = N) w3 w

theorem YSt.step {N bx yb : Nat} {w3 w w' : World} {S : List UInt8} {st st' : RS} {p : Int} {sv : Value} {l : List Slot} {a b c : Int} (h : YSt N bx yb w3 S st p sv l a b c w) (hNb : N < bx) (hNy : N < yb)
    (hu : Upd (fun k => k = N) w w') (hr : RfSt w' N S st') : YSt N bx yb w3 S st' p sv l a b c w' where
  rf := hr
  hx := (hu.block bx (Array.getElem?_eq_some_iff.1 h.hx).1 (by omega)).trans h.hx
  hy := (hu.block yb (Array.getElem?_eq_some_iff.1 h.hy).1 (by omega)).trans h.hy
  own := owns_upd h.own hu (fun g hg => by have := (owns_lt h.own g hg).1; omega)
  lt := h.lt
  up := h.up.trans hu

theorem YSt.set {N bx yb : Nat} {w3 w : World} {S : List UInt8} {st : RS} {p : Int} {sv : Value} {l : List Slot} {a b c : Int} (h : YSt N bx yb w3 S st p sv l a b c w) (hNb : N < bx) (hby : bx < yb) (hw3 : w3.heap.size ≤ yb) (i : Nat) (v : Int)
    {a' b' c' : Int} (he : (#[.int .i64 a, .int .i64 b, .int .i64 c] : Array Value).setIfInBounds i (.int .i64 v) = #[.int .i64 a', .int .i64 b', .int .i64 c']) : YSt N bx yb w3 S st p sv l a' b' c' (w.setCell ⟨yb, i, none⟩ (.int .i64 v)) := by
  have hset : Upd (fun k => k = yb) w (w.setCell ⟨yb, i, none⟩ (.int .i64 v)) := upd_setCell (F := fun k => k = yb) (Upd.refl _ _) rfl _
  refine ⟨h.rf.upd hset (by omega), ?_, ?_, ?_, h.lt, ?_⟩
  · exact (hset.block bx (Array.getElem?_eq_some_iff.1 h.hx).1 (by omega)).trans h.hx
  · rw [setCell_same h.hy, he]
  · exact owns_upd h.own hset (fun g hg => by have := h.lt g hg; omega)
  · exact (h.up.mono (G := fun k => k = N ∨ k = yb) (fun k _ hk => .inl hk)).trans (hset.mono (fun k _ hk => .inr hk)) |>.mono (fun k hk h => h.elim id (fun h => by omega))

theorem YSt.cells {N bx yb : Nat} {w3 w : World} {S : List UInt8} {st : RS} {p : Int} {sv : Value} {l : List Slot} {a b c : Int} (h : YSt N bx yb w3 S st p sv l a b c w) :
    w.cell? ⟨yb, 0, none⟩ = some (.int .i64 a) ∧ w.cell? ⟨yb, 1, none⟩ = some (.int .i64 b) ∧ w.cell? ⟨yb, 2, none⟩ = some (.int .i64 c) ∧ (∀ o, w.frozen? ⟨yb, o, none⟩ = false) ∧
      w.cell? ⟨bx, 1, none⟩ = some sv ∧ (∀ o, w.frozen? ⟨bx, o, none⟩ = false) := by
  refine ⟨?_, ?_, ?_, ?_, ?_, ?_⟩
  · rw [cell_of_row w _ 0 _ _ _ h.hy]; rfl
  · rw [cell_of_row w _ 1 _ _ _ h.hy]; rfl
  · rw [cell_of_row w _ 2 _ _ _ h.hy]; rfl
  · intro o; simp [World.frozen?, h.hy]
  · rw [cell_of_row w _ 1 _ _ _ h.hx]; rfl
  · intro o; simp [World.frozen?, h.hx]

theorem slots_snocT {N bx yb : Nat} {S : List UInt8} {w3 w8 w9 : World} {p : Int} {sv sv' : Value} {l : List Slot} {y0 y1 y2 a b c : Int} {st8 : RS} {o : Obj}
    (h : YSt N bx yb w3 S st8 p sv l a b c w8) (hNb : N < bx) (hbx : bx = w3.heap.size)
    (hg : (w8.alloc o).grownBy w9 sv.ownBlock) (hown9 : w9.ownsRow (bx + 1) 69 3 sv' (l.length + 1) (rowCells l ++ [.int .i64 y0, .int .i64 y1, .int .i64 y2])) :
    RfSt (w9.setCell ⟨bx, 1, none⟩ sv') N S st8 ∧ (w9.setCell ⟨bx, 1, none⟩ sv').heap[bx]? = some (.cells #[.int .i64 p, sv'] 105 (0, 0)) ∧
      (w9.setCell ⟨bx, 1, none⟩ sv').ownsRow (bx + 1) 69 3 sv' (l ++ [(⟨y0, y1, y2⟩ : Slot)]).length (rowCells (l ++ [⟨y0, y1, y2⟩])) ∧ Upd (fun k => k = N) w3 (w9.setCell ⟨bx, 1, none⟩ sv') := by
  have hlt8 : bx < w8.heap.size := (Array.getElem?_eq_some_iff.1 h.hx).1
  have hr := owns_lt h.own
  have hu89 : Upd (fun k => some k = sv.ownBlock) w8 w9 := (upd_alloc _ w8 o).trans (upd_grown hg)
  have hx9 := (hu89.block bx (by omega) (fun e => by have := (hr _ e.symm).1; omega)).trans h.hx
  have hR9 : RfSt w9 N S st8 := h.rf.upd hu89 (fun e => by have := (hr _ e.symm).1; omega)
  have hset : Upd (fun k => k = bx) w9 (w9.setCell ⟨bx, 1, none⟩ sv') := upd_setCell (F := fun k => k = bx) (Upd.refl _ _) rfl sv'
  refine ⟨hR9.upd hset (by omega), ?_, ?_, ?_⟩
  · rw [setCell_same hx9]; rfl
  · have e : rowCells (l ++ [⟨y0, y1, y2⟩]) = rowCells l ++ [.int .i64 y0, .int .i64 y1, .int .i64 y2] := by simp [rowCells, Slot.cells]
    rw [e, List.length_append]
    exact owns_upd hown9 hset (fun g hg' => by have := (owns_lt hown9 g hg').1; omega)
  · have h1 : Upd (fun k => k = N ∨ bx ≤ k) w3 w8 := h.up.mono (fun k _ h => .inl h)
    have h3 : Upd (fun k => k = N ∨ bx ≤ k) w8 w9 := hu89.mono (fun k _ h => .inr (by have := (hr _ h.symm).1; omega))
    have h4 : Upd (fun k => k = N ∨ bx ≤ k) w9 (w9.setCell ⟨bx, 1, none⟩ sv') := hset.mono (fun k _ h => .inr (by omega))
    exact ((h1.trans h3).trans h4).mono (fun k hk h => h.elim id (fun h => by omega))

theorem keepT {bx : Nat} {w8 w9 : World} {o : Obj} {r : Option Nat} {sv : Value} (h1 : w8.cell? ⟨bx, 1, none⟩ = some sv) (h2 : w8.frozen? ⟨bx, 1, none⟩ = false)
    (hg : (w8.alloc o).grownBy w9 r) (hr : ∀ g, r = some g → bx + 1 ≤ g ∧ g < w8.heap.size) : w9.cell? ⟨bx, 1, none⟩ = some sv ∧ w9.frozen? ⟨bx, 1, none⟩ = false := by
  have hlt : bx < w8.heap.size := World.block_lt_of_cell? w8 _ h1
  have hu : Upd (fun k => some k = r) w8 w9 := (upd_alloc _ w8 o).trans (upd_grown hg)
  have hbk := hu.block bx hlt (fun e => by have := (hr _ e.symm).1; omega)
  exact ⟨(World.cell?_of_block hbk).trans h1, (World.frozen?_of_block hbk).trans h2⟩

def RowsStR (w0 : World) (s : List UInt8) (R : List (Int × List Slot) × RS) (out : Value) (st : RS) (acc : List (Int × List Slot)) (wr : World) : Prop :=
  ∃ f mm, fuel st ≤ f ∧ many (rdRow ok6) ok65 f st acc = R ∧ acc.length + fuel st ≤ s.length + 1 ∧ mm.length = acc.length ∧
    wr.ownsRow (w0.heap.size + 1) 105 2 out mm.length (seenCells mm) ∧ MRel wr mm acc ∧ Below w0.heap.size w0 wr

def SlotsStR (N bx : Nat) (w3 : World) (s : List UInt8) (p : Int) (R : List Slot × RS) (st : RS) (l : List Slot) (wr : World) : Prop :=
  ∃ f sv, fuel st ≤ f ∧ many rdSlot ok6 f st l = R ∧ l.length + fuel st ≤ s.length + 1 ∧ wr.heap[bx]? = some (.cells #[.int .i64 p, sv] 105 (0, 0)) ∧
    wr.ownsRow (bx + 1) 69 3 sv l.length (rowCells l) ∧ Upd (fun k => k = N) w3 wr

set_option maxRecDepth 100000 in
set_option maxHeartbeats 4000000 in
theorem R6Decode_any {w : World} (s : List UInt8) (hs : s.length ≤ 1048576) :
    Calls Tryz.prog 30 #[.string (bs s)] w (Decoded w (decT ok6 ok65 s)) := by
  have hs47 : s.length ≤ 140737488355328 := by omega
  have HS47 := Lib.hid hs47
  clear hs47
  obtain ⟨i0, hi, hz0, hz1, hz2⟩ := info_parts info_Slot
  obtain ⟨i1, ki, kz0, kz1, kz2⟩ := info_parts info_Seen
  go_enter Tryz.func30, Tryz.ntmps30
  go_wp2_with fail
  have hR1 : RfSt ((w.alloc (.cells #[.string (bs s), .int .i64 0, .bool false] 102)).alloc (.cells #[] 105)) w.heap.size s (s, false) :=
    ⟨0, Nat.zero_le _, by simp, (Below.heap_alloc _ _ _ (by simp)).trans (heap_alloc_new _ _)⟩
  refine (RrOpen_any hR1 HS47.out).mono ?_
  rintro e w2 ⟨rfl, hR2, hu2⟩
  have hN2 := hR2.lt
  have hb2 : Below w.heap.size w w2 := below_updN (below_alloc2 w _ _) hu2 (Nat.le_refl _) (by simp; omega)
  have hmade := World.ownsRow_made (e := 105) (size := 2) (base := w.heap.size + 1) (w.alloc (.cells #[.string (bs s), .int .i64 0, .bool false] 102)) #[] 0 (by simp) (Nat.zero_le _) rfl
  have hown2 := owns_upd hmade hu2 (fun g hg e => by have := (owns_lt hmade g hg).1; omega)
  simp only [World.size_alloc] at hown2
  have hf0 := rdS_le 108 (s, false)
  have hf1 : fuel (s, false) = s.length + 1 := by simp [fuel]
  obtain ⟨st0, hst0⟩ : ∃ st0, rdS 108 (s, false) = st0 := ⟨_, rfl⟩
  obtain ⟨RR, hRR⟩ : ∃ RR, rdRows ok6 ok65 st0 = RR := ⟨_, rfl⟩
  have hTb : rdTable ok6 ok65 s = (RR.1, rdS 101 RR.2) := by unfold rdTable; rw [hst0, hRR]
  rw [hst0] at hR2 hf0
  have HR := Lib.hid hTb
  have HRR := Lib.hid hRR
  have HOWN := Lib.hid hown2
  clear hR1 hu2 hst0 hTb hRR hown2 hmade
  go_wp2
  go_loopg [5, 6, 7] (fuel st0) (fun gk out _ _ wr => ∃ st acc, gk = fuel st ∧ RfSt wr w.heap.size s st ∧ RowsStR w s RR out st acc wr)
  case atStart => exact ⟨st0, [], rfl, hR2, fuel st0, [], Nat.le_refl _, HRR.out, by simp; omega, rfl, HOWN.out, trivial, hb2⟩
  case round =>
    obtain ⟨st, acc, rfl, hR, f, mm, hf, hm, hlen, hml, hown, hrel', hbel⟩ := hrel
    obtain ⟨oa0, oc0, rfl, -⟩ := (Sl.of_owns hown).shape
    have HX := Lib.hid (And.intro hm (And.intro hml (And.intro hown hrel')))
    clear hm hml hown hrel'
    have hsz := hbel.size
    have hmm : mm.length ≤ 1048577 := by have := HX.out.2.1; omega
    by_cases hgo : rdM st = true ∧ mm.length < 65
    case neg =>
      have hstop := many_stop (step := rdRow ok6) (ok := ok65) (st := st) (acc := acc) f (by
        rw [← HX.out.2.1]
        by_cases h1 : rdM st = true
        · right; simp only [ok65, decide_eq_false_iff_not]; exact fun h => hgo ⟨h1, h⟩
        · left; simpa using h1)
      rw [HX.out.1] at hstop
      have hdec : decT ok6 ok65 s = if rdD (rdS 101 st) = true ∧ isTableB acc = true then some acc else none := by
        unfold decT
        rw [HR.out, hstop]
      have HD := Lib.hid hdec
      clear hdec hstop
      have hmore : (rdM st = false) ∨ (rdM st = true ∧ ¬ (mm.length : Int) < 65) := by
        cases h1 : rdM st
        · exact .inl rfl
        · exact .inr ⟨rfl, fun h => hgo ⟨h1, by omega⟩⟩
      clear hgo
      rcases hmore with hM | ⟨hM, hL⟩
      all_goals
        have HM := Lib.hid hM
        clear hM
        go_wp2_with (first | (go_at_call 69; refine (RrMore_any hR HS47.out).mono ?_; rintro e wo ⟨rfl, hbo, hRo⟩; rw [HM.out]))
        have hb3 := below_trans hbel hbo
        obtain ⟨hown3, hrel3⟩ := rows_updT hR.nt (Upd.of_below (F := fun k => k = w.heap.size) hbo) (Nat.lt_succ_self _) HX.out.2.2.1 HX.out.2.2.2
        refine (RrClose_any hRo HS47.out).mono ?_
        rintro e w4 ⟨rfl, hR4, hu4⟩
        have hb4 : Below w.heap.size w w4 := below_updN hb3 hu4 (Nat.le_refl _) hb3.size
        obtain ⟨hown4, hrel4⟩ := rows_updT hRo.nt hu4 (Nat.lt_succ_self _) hown3 hrel3
        have hseen := seens_of hown4 hrel4
        have HT := Lib.hid (fun w' (hb' : Below w4.heap.size w4 w') => R6Good_any (hseen.below hb'))
        have HS := Lib.hid hseen
        clear hown4 hrel4 hseen hu4 hown3 hrel3
        cases hD : rdD (rdS 101 st) with
        | false =>
          have HDD := Lib.hid hD
          rw [hD] at HD
          have hdn := HD.out
          rw [if_neg (by simp)] at hdn
          have HDN := Lib.hid hdn
          clear hD HD hdn
          go_wp2_with (first | (go_at_call 65; refine (RrDone_any hR4 HS47.out).mono ?_; rintro e w5 ⟨rfl, hb5⟩; rw [HDD.out, if_neg (by decide)]))
          exact bodyPost_ret (v := .tuple #[.slice none 0 0, .int .i64 3]) (by simp [results, Tryz.results30, go_sem]) rfl ⟨_, by rw [HDN.out]; rfl, by rw [HDN.out]; exact seens_nil _, below_trans hb4 hb5⟩
        | true =>
          have HDD := Lib.hid hD
          rw [hD] at HD
          clear hD
          cases hTB : isTableB acc with
          | false =>
            rw [hTB] at HD HT
            have hdn := HD.out
            rw [if_neg (by simp)] at hdn
            have HDN := Lib.hid hdn
            clear HD hTB hdn
            go_wp2_with (first | (go_at_call 65; refine (RrDone_any hR4 HS47.out).mono ?_; rintro e w5 ⟨rfl, hb5⟩; rw [HDD.out, if_pos rfl]) | (go_at_call 67; refine (HT.out _ hb5).mono ?_; rintro e w6 ⟨rfl, hb6⟩))
            exact bodyPost_ret (v := .tuple #[.slice none 0 0, .int .i64 3]) (by simp [results, Tryz.results30, go_sem]) rfl ⟨_, by rw [HDN.out]; rfl, by rw [HDN.out]; exact seens_nil _, below_trans (below_trans hb4 hb5) hb6⟩
          | true =>
            rw [hTB] at HD HT
            have hdn := HD.out
            rw [if_pos (by simp)] at hdn
            have HDN := Lib.hid hdn
            clear HD hTB hdn
            go_wp2_with (first | (go_at_call 65; refine (RrDone_any hR4 HS47.out).mono ?_; rintro e w5 ⟨rfl, hb5⟩; rw [HDD.out, if_pos rfl]) | (go_at_call 67; refine (HT.out _ hb5).mono ?_; rintro e w6 ⟨rfl, hb6⟩))
            exact bodyPost_ret (v := .tuple #[.slice oa0 mm.length oc0, .int .i64 0]) (by simp [results, Tryz.results30, go_sem]) rfl ⟨_, by rw [HDN.out]; rfl, by rw [HDN.out]; exact HS.out.below (below_trans hb5 hb6), below_trans (below_trans hb4 hb5) hb6⟩
    obtain ⟨hM, hL65⟩ := hgo
    have hL : (mm.length : Int) < 65 := by omega
    have HM := Lib.hid hM
    have hrow : rdRow ok6 st = (((rdI (rdS 108 st)).1, (rdSlots ok6 (rdI (rdS 108 st)).2).1), rdS 101 (rdSlots ok6 (rdI (rdS 108 st)).2).2) := rfl
    have hq1 := rdS_lt (c := 108) (rdM_ok hM)
    have hq2 := rdI_le (rdS 108 st)
    have hgo := many_go (step := rdRow ok6) (ok := ok65) (acc := acc) (rdRow_lt ok6) hM (by rw [← HX.out.2.1]; simp [ok65, hL65]) hf
    rw [HX.out.1] at hgo
    have hlt := rdRow_lt ok6 st (rdM_ok hM)
    have HGO := Lib.hid (And.intro hrow (And.intro hgo hlt))
    clear hrow hgo hlt hM
    go_wp2_with (first | (go_at_call 69; refine (RrMore_any hR HS47.out).mono ?_; rintro e w3 ⟨rfl, hb3', hR3⟩; rw [HM.out]))
    have hb3 := below_trans hbel hb3'
    obtain ⟨hown3, hrel3⟩ := rows_updT hR.nt (Upd.of_below (F := fun k => k = w.heap.size) hb3') (Nat.lt_succ_self _) HX.out.2.2.1 HX.out.2.2.2
    have HROWS := Lib.hid (And.intro hown3 (And.intro hrel3 (And.intro hR3.nt hb3)))
    have hN3 := hR3.lt
    clear hown3 hrel3 hR
    refine (RrOpen_any (hR3.upd (upd_alloc (fun _ => False) w3 _) (fun h => h)) HS47.out).mono ?_
    rintro e w4 ⟨rfl, hR4, hu4⟩
    go_wp2_with fail
    refine (rdI_st hR4 HS47.out).mono ?_
    rintro e w5 ⟨rfl, hR5, hu5⟩
    have hx3 : (w3.alloc (.cells #[.int .i64 0, .slice none 0 0] 105)).heap[w3.heap.size]? = some (.cells #[.int .i64 0, .slice none 0 0] 105 (0, 0)) := heap_alloc_new _ _
    have hu45 := hu4.trans hu5
    have hx5 := (hu45.block w3.heap.size (by simp) (by omega)).trans hx3
    have x0 : w5.cell? ⟨w3.heap.size, 0, none⟩ = some (.int .i64 0) := by rw [cell_of_row w5 _ 0 _ _ _ hx5]; rfl
    have xf : ∀ o, w5.frozen? ⟨w3.heap.size, o, none⟩ = false := fun o => by simp [World.frozen?, hx5]
    have hs5 : w3.heap.size < w5.heap.size := (Array.getElem?_eq_some_iff.1 hx5).1
    generalize (rdI (rdS 108 st)).1 = p at *
    generalize (rdI (rdS 108 st)).2 = st4 at *
    obtain ⟨R2, hR2'⟩ : ∃ R2, rdSlots ok6 st4 = R2 := ⟨_, rfl⟩
    have hgo2 := HGO.out
    rw [hR2'] at hgo2
    have HGO2 := Lib.hid hgo2
    have HR2 := Lib.hid hR2'
    have hf4 : fuel st4 ≤ s.length := by omega
    clear hq1 hq2 hgo2 hR2' HGO
    have hset : Upd (fun k => k = w3.heap.size) w5 (w5.setCell ⟨w3.heap.size, 0, none⟩ (.int .i64 p)) := upd_setCell (F := fun k => k = w3.heap.size) (Upd.refl _ _) rfl _
    have hR6 : RfSt (w5.setCell ⟨w3.heap.size, 0, none⟩ (.int .i64 p)) w.heap.size s st4 := hR5.upd hset (by omega)
    have hx6 : (w5.setCell ⟨w3.heap.size, 0, none⟩ (.int .i64 p)).heap[w3.heap.size]? = some (.cells #[.int .i64 p, .slice none 0 0] 105 (0, 0)) := by rw [setCell_same hx5]; rfl
    have hu6 : Upd (fun k => k = w.heap.size) w3 (w5.setCell ⟨w3.heap.size, 0, none⟩ (.int .i64 p)) :=
      (((upd_alloc (fun k => k = w.heap.size ∨ k = w3.heap.size) w3 _).trans (hu45.mono (fun k _ h => .inl h))).trans (hset.mono (fun k _ h => .inr h))).mono (fun k hk h => h.elim id (fun h => by omega))
    have HST := Lib.hid (And.intro hx6 hu6)
    clear hx3 hx5 hset hx6 hu6 hu45 hu4 hu5 hR4 hR5 hR3
    go_wp2
    go_loopg [7] (fuel st4) (fun gk _ wr => ∃ st' l, gk = fuel st' ∧ RfSt wr w.heap.size s st' ∧ SlotsStR w.heap.size w3.heap.size w3 s p R2 st' l wr)
    case atStart => exact ⟨st4, [], rfl, hR6, fuel st4, .slice none 0 0, Nat.le_refl _, HR2.out, by simp; omega, HST.out.1, World.ownsRow_nil _ _ _ _, HST.out.2⟩
    case round =>
      obtain ⟨st', l, rfl, hR', f', sv, hf', hm', hlen', hbx, hown', hu'⟩ := hrel
      obtain ⟨sa, sc, rfl, -⟩ := (Sl.of_owns hown').shape
      have HY := Lib.hid (And.intro hm' (And.intro hown' (And.intro hu' hbx)))
      have hltx : w3.heap.size < wr.heap.size := (Array.getElem?_eq_some_iff.1 hbx).1
      clear hm' hown' hu' x0 xf hR6
      by_cases hgo' : rdM st' = true ∧ l.length < 6
      case neg =>
        have hstop := many_stop (step := rdSlot) (ok := ok6) (st := st') (acc := l) f' (by
          by_cases h1 : rdM st' = true
          · right; simp only [ok6, decide_eq_false_iff_not]; exact fun h => hgo' ⟨h1, h⟩
          · left; simpa using h1)
        rw [HY.out.1] at hstop
        have hmore : (rdM st' = false) ∨ (rdM st' = true ∧ ¬ (l.length : Int) < 6) := by
          cases h1 : rdM st'
          · exact .inl rfl
          · exact .inr ⟨rfl, fun h => hgo' ⟨h1, by omega⟩⟩
        clear hgo'
        have HSTOP := Lib.hid hstop
        clear hstop
        have cx0 : wr.cell? ⟨w3.heap.size, 0, none⟩ = some (.int .i64 p) := by rw [cell_of_row wr _ 0 _ _ _ hbx]; rfl
        have cx1 : wr.cell? ⟨w3.heap.size, 1, none⟩ = some (.slice sa l.length sc) := by rw [cell_of_row wr _ 1 _ _ _ hbx]; rfl
        clear hbx
        rcases hmore with hM' | ⟨hM', hL6⟩
        all_goals
          have HM' := Lib.hid hM'
          clear hM'
          go_wp2_with (first | (go_at_call 69; refine (RrMore_any hR' HS47.out).mono ?_; rintro e w6 ⟨rfl, hb6, hR6⟩; rw [HM'.out]; obtain ⟨hc6, hf6⟩ := bcell hb6))
          refine (RrClose_any hR6 HS47.out).mono ?_
          rintro e w7 ⟨rfl, hR7, hu7⟩
          have hN6 := hR6.lt
          have hs6 := hb6.size
          have hs7 := hu7.size
          have x0 : w7.cell? ⟨w3.heap.size, 0, none⟩ = some (.int .i64 p) := upd_some hu7 (below_some hb6 cx0 hltx) (by omega)
          have x1 : w7.cell? ⟨w3.heap.size, 1, none⟩ = some (.slice sa l.length sc) := upd_some hu7 (below_some hb6 cx1 hltx) (by omega)
          have hu67 : Upd (fun k => k = w.heap.size) wr w7 := (Upd.of_below hb6).trans hu7
          have hup := HY.out.2.2.1.trans hu67
          have hown7 := owns_upd HY.out.2.1 hu67 (fun g hg => by have := (owns_lt HY.out.2.1 g hg).1; omega)
          obtain ⟨hownT, hrelT⟩ := rows_updT HROWS.out.2.2.1 hup (Nat.lt_succ_self _) HROWS.out.1 HROWS.out.2.1
          have hb7 : Below w.heap.size w w7 := below_updN HROWS.out.2.2.2 hup (Nat.le_refl _) HROWS.out.2.2.2.size
          have hsz7 := hb7.size
          have HO := Lib.hid (And.intro hownT (And.intro hrelT hown7))
          clear hownT hrelT hown7 hc6 hf6 hb6 hu7 hu67 hup
          go_wp2_with (at_builtin; refine wpList_append_lies _ rfl _ _ 48 rfl (w.heap.size + 1) 105 i1 _ 2 32 und_Seens ki kz0 kz1 kz2 rfl (by decide) (.slice oa0 mm.length oc0) mm.length (seenCells mm) rfl (HO.out.1.alloc _) ⟨w7.heap.size, 0, none⟩ 1 1 [.int .i64 p, .slice sa l.length sc] rfl rfl (World.news_of_block (cs := #[.int .i64 p, .slice sa l.length sc]) (t := 105) (fr := (0, 0)) (heap_alloc_new w7 _)) (by simp [Value.oneCell']) (by decide) ?_ ?_ ?_ _ rfl ?_; (unfold maxLen; omega); omega; (simp only [World.size_alloc]; omega); intro g8 gcap8 w8 hown8 hgrow8 hat8 hlt8; have D := Lib.hid (And.intro hown8 hgrow8); clear hown8 hgrow8 hat8 hlt8)
          obtain ⟨hown8, hgrow8⟩ := D.out
          obtain ⟨hown9, hrel9⟩ := rows_snoc HO.out.1 HO.out.2.1 HO.out.2.2 hgrow8 hown8
          have hlt8 := owns_lt HO.out.1
          have hR8 : RfSt w8 w.heap.size s (rdS 101 st') := hR7.upd ((upd_alloc _ w7 _).trans (upd_grown hgrow8)) (fun e => by have := (hlt8 _ e.symm).1; omega)
          have hb8 : Below w.heap.size w w8 := (hb7.alloc (by omega) _).grown hgrow8 (by simp only [World.size_alloc]; omega) (fun k e => by have := (hlt8 k e).1; omega)
          obtain ⟨hrow, ⟨f7, hf7, hf8⟩, hlt7⟩ := HGO2.out
          rw [HSTOP.out] at hrow
          rw [hrow] at hf7 hf8 hlt7
          dsimp only at hf7 hf8 hlt7
          have HFIN := Lib.hid (And.intro hown9 (And.intro hrel9 (And.intro hR8 (And.intro hb8 (And.intro hf7.symm hf8)))))
          clear hown8 hgrow8 hown9 hrel9 hlt8 hR8 hb8 hrow hf7 hf8 D
          go_roundg (fuel (rdS 101 st'))
          case measure => exact hlt7
          case rel => exact ⟨_, acc ++ [(p, l)], rfl, HFIN.out.2.2.1, f7, mm ++ [(p, .slice sa l.length sc)], HFIN.out.2.2.2.2.2, HFIN.out.2.2.2.2.1, (by simp only [List.length_append, List.length_singleton]; omega), (by rw [List.length_append, List.length_append, HX.out.2.1]; rfl), HFIN.out.1, HFIN.out.2.1, HFIN.out.2.2.2.1⟩
      obtain ⟨hM', hL6⟩ := hgo'
      have hL6' : (l.length : Int) < 6 := by omega
      have HM' := Lib.hid hM'
      have cx1 : wr.cell? ⟨w3.heap.size, 1, none⟩ = some (.slice sa l.length sc) := by rw [cell_of_row wr _ 1 _ _ _ hbx]; rfl
      have hslot : rdSlot st' = (⟨(rdI (rdS 108 st')).1, (rdI (rdI (rdS 108 st')).2).1, (rdI (rdI (rdI (rdS 108 st')).2).2).1⟩, rdS 101 (rdI (rdI (rdI (rdS 108 st')).2).2).2) := rfl
      have hgo' := many_go (step := rdSlot) (ok := ok6) (acc := l) rdSlot_lt hM' (by simp [ok6, hL6]) hf'
      rw [HY.out.1] at hgo'
      have hlt' := rdSlot_lt st' (rdM_ok hM')
      obtain ⟨st5, h5⟩ : ∃ st5, rdS 108 st' = st5 := ⟨_, rfl⟩
      rw [h5] at hslot
      obtain ⟨y0, st6, h6⟩ : ∃ a b, rdI st5 = (a, b) := ⟨_, _, rfl⟩
      rw [h6] at hslot
      dsimp only at hslot
      obtain ⟨y1, st7, h7⟩ : ∃ a b, rdI st6 = (a, b) := ⟨_, _, rfl⟩
      rw [h7] at hslot
      dsimp only at hslot
      obtain ⟨y2, st8, h8⟩ : ∃ a b, rdI st7 = (a, b) := ⟨_, _, rfl⟩
      rw [h8] at hslot
      dsimp only at hslot
      rw [hslot] at hgo' hlt'
      have HG := Lib.hid (And.intro hgo' hlt')
      have H5 := Lib.hid h5
      have H6 := Lib.hid h6
      have H7 := Lib.hid h7
      have H8 := Lib.hid h8
      have HXW := Lib.hid hbx
      clear hgo' hlt' h5 h6 h7 h8 hslot hM' hbx
      have rint : ∀ w' st1 a st2, rdI st1 = (a, st2) → RfSt w' w.heap.size s st1 → Calls Tryz.prog 63 #[.pointer (some ⟨w.heap.size, 0, none⟩)] w' fun e w2 => e = .returned (.int .i64 a) ∧ RfSt w2 w.heap.size s st2 ∧ Upd (fun k => k = w.heap.size) w' w2 := by
        intro w' st1 a st2 hrd hr
        have := rdI_st hr HS47.out
        rw [hrd] at this
        exact this
      have HRI := Lib.hid rint
      clear rint
      go_wp2_with (first | (go_at_call 69; refine (RrMore_any hR' HS47.out).mono ?_; rintro e w6 ⟨rfl, hb6, hR6⟩; rw [HM'.out]; obtain ⟨hc6, hf6⟩ := bcell hb6))
      have hs6 := hb6.size
      have hN6 := hR6.lt
      have Y0 : YSt w.heap.size w3.heap.size w6.heap.size w3 s st' p (.slice sa l.length sc) l 0 0 0 (w6.alloc (.cells #[.int .i64 0, .int .i64 0, .int .i64 0] 69)) := by
        have hub := below_trans hb6 (below_alloc w6 (.cells #[.int .i64 0, .int .i64 0, .int .i64 0] 69))
        exact ⟨hR6.upd (upd_alloc (fun _ => False) w6 _) (fun h => h), (hub.block _ hltx).trans HXW.out, heap_alloc_new _ _, owns_upd HY.out.2.1 (Upd.of_below (F := fun _ => False) hub) (fun _ _ h => h),
          fun g hg => by have := (owns_lt HY.out.2.1 g hg).2; omega, HY.out.2.2.1.trans (Upd.of_below hub)⟩
      have hxy : w3.heap.size < w6.heap.size := by omega
      clear hc6 hf6 hb6 cx1
      refine (RrOpen_any Y0.rf HS47.out).mono ?_
      rintro e w7 ⟨rfl, hR7, hu7⟩
      rw [H5.out] at hR7
      have Y1 := Y0.step hN3 (by omega) hu7 hR7
      clear hR7 hu7 Y0
      go_wp2_with fail
      refine (HRI.out _ _ _ _ H6.out Y1.rf).mono ?_
      rintro e w8 ⟨rfl, hR8, hu8⟩
      have Y2 := Y1.step hN3 (by omega) hu8 hR8
      obtain ⟨d0, d1, d2, df, dx, dxf⟩ := Y2.cells
      have Y3 := Y2.set hN3 hxy (by omega) 0 y0 rfl
      clear hR8 hu8 Y1 Y2
      go_wp2_with fail
      refine (HRI.out _ _ _ _ H7.out Y3.rf).mono ?_
      rintro e w9 ⟨rfl, hR9, hu9⟩
      have Y4 := Y3.step hN3 (by omega) hu9 hR9
      clear d0 d1 d2 df dx dxf
      obtain ⟨d0, d1, d2, df, dx, dxf⟩ := Y4.cells
      have Y5 := Y4.set hN3 hxy (by omega) 1 y1 rfl
      clear hR9 hu9 Y3 Y4
      go_wp2_with fail
      refine (HRI.out _ _ _ _ H8.out Y5.rf).mono ?_
      rintro e w10 ⟨rfl, hR10, hu10⟩
      have Y6 := Y5.step hN3 (by omega) hu10 hR10
      clear d0 d1 d2 df dx dxf
      obtain ⟨d0, d1, d2, df, dx, dxf⟩ := Y6.cells
      have Y7 := Y6.set hN3 hxy (by omega) 2 y2 rfl
      clear hR10 hu10 Y5 Y6
      go_wp2_with fail
      refine (RrClose_any Y7.rf HS47.out).mono ?_
      rintro e w11 ⟨rfl, hR11, hu11⟩
      have Y8 := Y7.step hN3 (by omega) hu11 hR11
      clear d0 d1 d2 df dx dxf hR11 hu11 Y7
      obtain ⟨d0, d1, d2, df, dx, dxf⟩ := Y8.cells
      have HY8 := Lib.hid Y8
      have hlt11 := Y8.up.size
      have hx11 : w3.heap.size < w11.heap.size := (Array.getElem?_eq_some_iff.1 Y8.hx).1
      have HDX := Lib.hid (And.intro dx (dxf 1))
      clear Y8 dxf
      go_wp2_with (at_builtin; refine wpList_append_lies _ rfl _ _ 103 rfl (w3.heap.size + 1) 69 i0 _ 3 24 und_Slots hi hz0 hz1 hz2 rfl (by decide) (.slice sa l.length sc) l.length (rowCells l) rfl (HY8.out.own.alloc _) ⟨w11.heap.size, 0, none⟩ 1 1 [.int .i64 y0, .int .i64 y1, .int .i64 y2] rfl rfl (World.news_of_block (cs := #[.int .i64 y0, .int .i64 y1, .int .i64 y2]) (t := 69) (fr := (0, 0)) (heap_alloc_new w11 _)) (by simp [Value.oneCell']) (by decide) ?_ ?_ ?_ _ rfl ?_; (unfold maxLen; omega); omega; (simp only [World.size_alloc]; omega); intro g12 gcap12 w12 hown12 hgrow12 hat12 hlt12; obtain ⟨c12, f12⟩ := keepT HDX.out.1 HDX.out.2 hgrow12 (owns_lt HY8.out.own); have D := Lib.hid (And.intro hown12 hgrow12); clear hown12 hgrow12 hat12 hlt12)
      obtain ⟨z1, z2, z3, z4⟩ := slots_snocT HY8.out hN3 rfl D.out.2 D.out.1
      obtain ⟨⟨f2, hf2, hf3⟩, hlt2⟩ := HG.out
      have HFIN := Lib.hid (And.intro z1 (And.intro z2 (And.intro z3 (And.intro z4 (And.intro hf2.symm (And.intro hf3 hlt2))))))
      clear z1 z2 z3 z4 hf2 hf3 D c12 f12 d0 d1 d2 df dx
      go_roundg (fuel (rdS 101 st8))
      case measure => exact hlt2
      case rel => exact ⟨_, l ++ [⟨y0, y1, y2⟩], rfl, HFIN.out.1, f2, _, HFIN.out.2.2.2.2.2.1, HFIN.out.2.2.2.2.1, (by simp only [List.length_append, List.length_singleton]; omega), HFIN.out.2.1, HFIN.out.2.2.1, HFIN.out.2.2.2.1⟩
end Go.Proofs.YtjkobbmdemooaaaGreatDoor
