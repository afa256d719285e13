/- The walk of strand.Append. (Printed by gen_stap.py.) -/
import Derived.Test.YtcpaaleogmiamaaGreatDoorMp22
import Derived.Test.YtcpaaleogmiamaaGreatDoorMp21
import Derived.Test.YtcpaaleogmiamaaGreatDoorMp20
namespace Go.Proofs.YtcpaaleogmiamaaGreatDoor
open Go.RowKit

/-- A batch onto the last segment, or in a new one. -/
def fullS (t : Tp) (x : St) (b : Batch) : Tp × St × Int :=
  if (syncS t x).2.2 ≠ 0 then syncS t x
  else ((appT (syncS t x).1 (fileS x b.base) (frameB (encB b))).1,
    (if (appT (syncS t x).1 (fileS x b.base) (frameB (encB b))).2 = 0 then { stDid (syncS t x).2.1 0 with segs := x.segs ++ [⟨b.base, [b]⟩] } else stDid (syncS t x).2.1 (appT (syncS t x).1 (fileS x b.base) (frameB (encB b))).2),
    (appT (syncS t x).1 (fileS x b.base) (frameB (encB b))).2)
def moreS (t : Tp) (x : St) (n : Nat) (g : Sg) (b : Batch) : Tp × St × Int :=
  ((appT t (fileS x g.base) (frameB (encB b))).1,
    (if (appT t (fileS x g.base) (frameB (encB b))).2 = 0 then { stDid x 0 with segs := x.segs.set n ⟨g.base, g.list ++ [b]⟩ } else stDid x (appT t (fileS x g.base) (frameB (encB b))).2),
    (appT t (fileS x g.base) (frameB (encB b))).2)
def appS (t : Tp) (x : St) (b : Batch) : Tp × St × Int :=
  if stReadyB t x = true then (t, x, 10)
  else if goodB b = false then (t, x, 1)
  else if b.base ≠ endS x.segs then (t, x, 20)
  else match x.segs.getLast? with
    | some g => if ((sgB g.list).length : Int) < x.size then moreS t x (x.segs.length - 1) g b else fullS t x b
    | none => fullS t x b

theorem ap_sum {a b c : Nat} (e : a + b = c) (h : c ≤ 140737488355328) : wrap64 ((a : Int) + (b : Int)) = (c : Int) := by
  rw [show ((a : Int) + (b : Int)) = (c : Int) by omega, ← IntWalk.i64_left]
  exact IntWalk.i64_in _ (by omega)
theorem ap_one {a c : Nat} (e : a = c) (h : c ≤ 140737488355328) : wrap64 (a : Int) = (c : Int) := by
  rw [e, ← IntWalk.i64_left]
  exact IntWalk.i64_in _ (by omega)
theorem endL_ge : ∀ {l : List Batch} {n : Int}, Chained n l → n ≤ endL n l
  | [], _, _ => Int.le_refl _
  | b :: l, n, h => by
    have h1 := endL_ge (l := l) (n := b.base + b.count) (by exact h.2.2)
    have h2 := ((goodB_iff _).1 h.1).count
    have h3 : b.base = n := h.2.1
    rw [endL]
    omega
theorem endL_gt {l : List Batch} {n : Int} (h : Chained n l) (h0 : l ≠ []) : n < endL n l := by
  cases l with
  | nil => exact absurd rfl h0
  | cons b l =>
    have h1 := endL_ge (l := l) (n := b.base + b.count) (by exact h.2.2)
    have h2 := ((goodB_iff _).1 h.1).count
    have h3 : b.base = n := h.2.1
    rw [endL]
    omega
theorem stDid_zero (x : St) : stDid x 0 = x := by simp [stDid]
theorem syncS_segs (t : Tp) (x : St) : (syncS t x).2.1.segs = x.segs ∧ (syncS t x).2.1.pre = x.pre ∧ (syncS t x).2.1.size = x.size := by
  unfold syncS
  split
  · exact ⟨rfl, rfl, rfl⟩
  · split <;> exact ⟨rfl, rfl, rfl⟩

/-- The call's own blocks: the batch in bx, the segment to be in nb. -/
structure ApB (W : World) (N bx nb : Nat) (q0 q1 q2 q3 q4 : Int) (rv : Value) (qr : List Rec) (n0 : Int) (nl : Value) (ny : Int) : Prop where
  bat : W.heap[bx]? = some (.cells #[.int .i64 q0, .int .i64 q1, .int .i64 q2, .int .i64 q3, .int .i64 q4, rv] 40 (0, 0))
  seg : W.heap[nb]? = some (.cells #[.int .i64 n0, nl, .int .i64 ny] 158 (0, 0))
  recs : W.ownsRow N 84 4 rv qr.length (recCells qr)
  new : N ≤ bx ∧ N ≤ nb
section
variable {W W' : World} {N bx nb : Nat} {q0 q1 q2 q3 q4 : Int} {rv : Value} {qr : List Rec} {n0 ny : Int} {nl : Value}
theorem ApB.upd {F : Nat → Prop} (h : ApB W N bx nb q0 q1 q2 q3 q4 rv qr n0 nl ny) (hu : Upd F W W') (hF : ∀ k, F k → k < N ∨ W.heap.size ≤ k) : ApB W' N bx nb q0 q1 q2 q3 q4 rv qr n0 nl ny := by
  have l1 := (Array.getElem?_eq_some_iff.1 h.bat).1
  have l2 := (Array.getElem?_eq_some_iff.1 h.seg).1
  have hn := h.new
  exact ⟨(hu.block bx l1 (fun e => by have := hF bx e; omega)).trans h.bat, (hu.block nb l2 (fun e => by have := hF nb e; omega)).trans h.seg, owns_upd h.recs hu (fun g hg e => by have := hF g e; have := owns_lt h.recs g hg; omega), hn⟩
theorem ApB.below (h : ApB W N bx nb q0 q1 q2 q3 q4 rv qr n0 nl ny) (hb : Below W.heap.size W W') : ApB W' N bx nb q0 q1 q2 q3 q4 rv qr n0 nl ny := h.upd (F := fun _ => False) (.of_below hb) (fun _ h => h.elim)
theorem ApB.lt (h : ApB W N bx nb q0 q1 q2 q3 q4 rv qr n0 nl ny) : bx < W.heap.size ∧ nb < W.heap.size := ⟨(Array.getElem?_eq_some_iff.1 h.bat).1, (Array.getElem?_eq_some_iff.1 h.seg).1⟩
theorem ApB.ne (h : ApB W N bx nb q0 q1 q2 q3 q4 rv qr n0 nl ny) : bx ≠ nb ∧ rv.ownBlock ≠ some nb ∧ rv.ownBlock ≠ some bx := by
  refine ⟨fun e => ?_, fun e => ?_, fun e => ?_⟩
  · have := h.bat; rw [e, h.seg] at this; simp at this
  · obtain ⟨cur, hc⟩ := owns_kind3 h.recs nb e
    rw [h.seg] at hc; simp at hc
  · obtain ⟨cur, hc⟩ := owns_kind3 h.recs bx e
    rw [h.bat] at hc; simp at hc
/-- The segment to be is written. -/
theorem ApB.setSeg (h : ApB W N bx nb q0 q1 q2 q3 q4 rv qr n0 nl ny) (m0 : Int) (ml : Value) (my : Int) : ApB (((W.setCell ⟨nb, 0, none⟩ (.int .i64 m0)).setCell ⟨nb, 1, none⟩ ml).setCell ⟨nb, 2, none⟩ (.int .i64 my)) N bx nb q0 q1 q2 q3 q4 rv qr m0 ml my := by
  have hu : Upd (fun k => k = nb) W (((W.setCell ⟨nb, 0, none⟩ (.int .i64 m0)).setCell ⟨nb, 1, none⟩ ml).setCell ⟨nb, 2, none⟩ (.int .i64 my)) := ((upd_set1 W nb 0 _).trans (upd_set1 _ nb 1 _)).trans (upd_set1 _ nb 2 _)
  have hn := h.ne
  exact ⟨(hu.block bx h.lt.1 hn.1).trans h.bat, setCell_same (o := 2) (v := .int .i64 my) (setCell_same (o := 1) (v := ml) (setCell_same (o := 0) (v := .int .i64 m0) h.seg)), owns_upd h.recs hu (fun g hg e => hn.2.1 (by rw [hg, e])), h.new⟩
theorem ApB.setList (h : ApB W N bx nb q0 q1 q2 q3 q4 rv qr n0 nl ny) (ml : Value) : ApB (W.setCell ⟨nb, 1, none⟩ ml) N bx nb q0 q1 q2 q3 q4 rv qr n0 ml ny := by
  have hu := upd_set1 W nb 1 ml
  have hn := h.ne
  exact ⟨(hu.block bx h.lt.1 hn.1).trans h.bat, setCell_same (o := 1) (v := ml) h.seg, owns_upd h.recs hu (fun g hg e => hn.2.1 (by rw [hg, e])), h.new⟩
theorem ApB.setBytes (h : ApB W N bx nb q0 q1 q2 q3 q4 rv qr n0 nl ny) (my : Int) : ApB (W.setCell ⟨nb, 2, none⟩ (.int .i64 my)) N bx nb q0 q1 q2 q3 q4 rv qr n0 nl my := by
  have hu := upd_set1 W nb 2 (.int .i64 my)
  have hn := h.ne
  exact ⟨(hu.block bx h.lt.1 hn.1).trans h.bat, setCell_same (o := 2) (v := .int .i64 my) h.seg, owns_upd h.recs hu (fun g hg e => hn.2.1 (by rw [hg, e])), h.new⟩
theorem ApB.cells (h : ApB W N bx nb q0 q1 q2 q3 q4 rv qr n0 nl ny) : (W.cell? ⟨bx, 0, none⟩ = some (.int .i64 q0) ∧ W.cell? ⟨bx, 1, none⟩ = some (.int .i64 q1) ∧ W.cell? ⟨bx, 2, none⟩ = some (.int .i64 q2) ∧ W.cell? ⟨bx, 3, none⟩ = some (.int .i64 q3) ∧ W.cell? ⟨bx, 4, none⟩ = some (.int .i64 q4) ∧ W.cell? ⟨bx, 5, none⟩ = some rv) ∧
    (W.cell? ⟨nb, 0, none⟩ = some (.int .i64 n0) ∧ W.cell? ⟨nb, 1, none⟩ = some nl ∧ W.cell? ⟨nb, 2, none⟩ = some (.int .i64 ny)) ∧ W.frozen? ⟨nb, 0, none⟩ = false ∧ W.frozen? ⟨nb, 1, none⟩ = false ∧ W.frozen? ⟨nb, 2, none⟩ = false :=
  ⟨⟨cells_of h.bat 0 _ rfl, cells_of h.bat 1 _ rfl, cells_of h.bat 2 _ rfl, cells_of h.bat 3 _ rfl, cells_of h.bat 4 _ rfl, cells_of h.bat 5 _ rfl⟩, ⟨cells_of h.seg 0 _ rfl, cells_of h.seg 1 _ rfl, cells_of h.seg 2 _ rfl⟩, frozen_of h.seg, frozen_of h.seg, frozen_of h.seg⟩
/-- The batch in a row of its own is read. -/
theorem ApB.one (h : ApB W N bx nb q0 q1 q2 q3 q4 rv qr n0 nl ny) : BsRd (W.alloc (.cells #[.int .i64 q0, .int .i64 q1, .int .i64 q2, .int .i64 q3, .int .i64 q4, rv] 40)) (.slice (some ⟨W.heap.size, 0, none⟩) 1 1) [⟨q0, q1, q2, q3, q4, qr⟩] := by
  refine ⟨[(rv, ⟨q0, q1, q2, q3, q4, qr⟩)], rfl, ⟨rfl, .inr ⟨_, 1, rfl, Nat.le_refl _, by unfold maxLen; omega, ?_⟩⟩, fun x hx => ?_⟩
  · exact World.news_of_block (cs := #[.int .i64 q0, .int .i64 q1, .int .i64 q2, .int .i64 q3, .int .i64 q4, rv]) (t := 40) (fr := (0, 0)) (heap_alloc_new W _)
  · simp only [List.mem_singleton] at hx
    subst hx
    exact (Sl.of_owns (h.recs.alloc _)).rd
/-- The list has grown by the batch. -/
def Grew (w14 wd : World) (N bx nb : Nat) (q0 q1 q2 q3 q4 : Int) (rv : Value) (qr : List Rec) (n0 ny : Int) (ln : Nat) (m0 : List (Value × Batch)) : Prop :=
  ∃ g cp : Nat, w14.heap.size ≤ g ∧ wd.ownsRow w14.heap.size 40 6 (.slice (some ⟨g, 0, none⟩) (ln + 1) cp) (ln + 1) (bCells m0 ++ [.int .i64 q0, .int .i64 q1, .int .i64 q2, .int .i64 q3, .int .i64 q4, rv]) ∧ ApB wd N bx nb q0 q1 q2 q3 q4 rv qr n0 (.slice (some ⟨g, 0, none⟩) (ln + 1) cp) ny ∧ Upd (fun k => k = nb) w14 wd
theorem Grew.of {w14 : World} {N ln g cp : Nat} {m0 : List (Value × Batch)} (h : ApB w14 N bx nb q0 q1 q2 q3 q4 rv qr n0 nl ny) (hb : Below w14.heap.size w14 W) (hg : w14.heap.size ≤ g) (ho : W.ownsRow w14.heap.size 40 6 (.slice (some ⟨g, 0, none⟩) (ln + 1) cp) (ln + 1) (bCells m0 ++ [.int .i64 q0, .int .i64 q1, .int .i64 q2, .int .i64 q3, .int .i64 q4, rv])) :
    Grew w14 (W.setCell ⟨nb, 1, none⟩ (.slice (some ⟨g, 0, none⟩) (ln + 1) cp)) N bx nb q0 q1 q2 q3 q4 rv qr n0 ny ln m0 :=
  ⟨g, cp, hg, owns_upd ho (upd_set1 W nb 1 _) (fun k hk e => by
    have h1 := h.lt.2
    simp only [Value.ownBlock, Option.some.injEq] at hk
    omega), (h.below hb).setList _, (Upd.of_below hb).trans (upd_set1 W nb 1 _)⟩
end

set_option maxRecDepth 100000 in
set_option maxHeartbeats 8000000 in
theorem StAppend_any {w0 w : World} {S : Nat → Prop} {sb b mb : Nat} {L : TpL} {x : St} {t : Tp} (hE : Env w0) (h : Sd w0 w S sb b mb L x t) {B : Batch} {rv : Value} (hr : RcsRd w rv B.recs) (hsl : x.segs.length ≤ 1000000) :
    Calls Tryz.prog 33 #[.pointer (some ⟨sb, 0, none⟩), B.v rv] w (SdTo w0 w S sb b mb L (appS t x B)) := by
  obtain ⟨q0, q1, q2, q3, q4, qr⟩ := B
  simp only [Batch.v] at hr ⊢
  obtain ⟨a, cap, rfl, -⟩ := hr.cells
  obtain ⟨R, hR⟩ : ∃ R, appS t x ⟨q0, q1, q2, q3, q4, qr⟩ = R := ⟨_, rfl⟩
  rw [hR]
  obtain ⟨wa, hwa⟩ : ∃ wa, wa = w.alloc (.cells #[.int .i64 q0, .int .i64 q1, .int .i64 q2, .int .i64 q3, .int .i64 q4, .slice a qr.length cap] 40) := ⟨_, rfl⟩
  obtain ⟨bx, hbx⟩ : ∃ bx, w.heap.size = bx := ⟨_, rfl⟩
  have hxb : wa.heap[bx]? = some (.cells #[.int .i64 q0, .int .i64 q1, .int .i64 q2, .int .i64 q3, .int .i64 q4, .slice a qr.length cap] 40 (0, 0)) := by rw [hwa, ← hbx]; exact heap_alloc_new _ _
  have hba : Below w.heap.size w wa := by rw [hwa]; exact below_alloc _ _
  have hrd := fun W (hW : Below w.heap.size w W) => Stready_any (h.below hW).st (h.below hW).tp
  have hgd := fun W (hW : Below w.heap.size w W) => CrGood_any ⟨q0, q1, q2, q3, q4, qr⟩ (.slice a qr.length cap) W (hr.below hW)
  simp only [Batch.v] at hgd
  obtain ⟨rb, hrb⟩ : ∃ r, stReadyB t x = r := ⟨_, rfl⟩
  rw [hrb] at hrd
  obtain ⟨gd, hgb⟩ : ∃ r, goodB ⟨q0, q1, q2, q3, q4, qr⟩ = r := ⟨_, rfl⟩
  rw [hgb] at hgd
  have HR := Lib.hid hR
  have H := Lib.hid h
  have HRD := Lib.hid hrd
  have HGD := Lib.hid hgd
  have HRR := Lib.hid hr
  have HXB := Lib.hid (And.intro hxb (And.intro hba hbx))
  clear h hr hrd hgd hxb hba hR
  go_enter Tryz.func33, Tryz.ntmps33
  go_upto_region 1 with fail
  rw [← hwa]
  try rw [hbx]
  clear hwa
  cases rb with
  | true =>
    simp only [if_true] at HRD
    have hs : R = (t, x, 10) := by rw [← HR.out, appS, if_pos hrb]
    have HS := Lib.hid hs
    clear hs hrb hgb hbx
    go_wp2_with (first | (go_at_call 86; refine (HRD.out _ HXB.out.2.1).mono ?_; rintro _ w1 ⟨rfl, hb1⟩))
    go_ret
    rw [HS.out]
    exact SdTo.same H.out 10 (HXB.out.2.1.trans (hb1.mono HXB.out.2.1.size))
  | false =>
    simp only [Bool.false_eq_true, if_false] at HRD
    go_wp2_with fail
    refine (HRD.out _ HXB.out.2.1).mono ?_
    rintro _ w1 ⟨rfl, hb1⟩
    have hb01 := HXB.out.2.1.trans (hb1.mono HXB.out.2.1.size)
    have hx1 := (hb1.block bx (Array.getElem?_eq_some_iff.1 HXB.out.1).1).trans HXB.out.1
    have c0 := cells_of hx1 0 _ rfl
    have c1 := cells_of hx1 1 _ rfl
    have c2 := cells_of hx1 2 _ rfl
    have c3 := cells_of hx1 3 _ rfl
    have c4 := cells_of hx1 4 _ rfl
    have c5 := cells_of hx1 5 _ rfl
    have HB1 := Lib.hid (And.intro hb01 hx1)
    clear hb01 hx1 hb1
    go_wp2_with fail
    refine (HGD.out _ HB1.out.1).mono ?_
    rintro _ w2 ⟨rfl, hb2⟩
    have hb02 := HB1.out.1.trans (hb2.mono HB1.out.1.size)
    have hx2 := (hb2.block bx (Array.getElem?_eq_some_iff.1 HB1.out.2).1).trans HB1.out.2
    clear c0 c1 c2 c3 c4 c5
    have HB2 := Lib.hid (And.intro hb02 hx2)
    clear hb02 hx2 hb2
    cases gd with
    | false =>
      have hs : R = (t, x, 1) := by rw [← HR.out, appS, if_neg (by rw [hrb]; decide), if_pos hgb]
      have HS := Lib.hid hs
      clear hs hrb hgb hbx
      go_wp2
      go_ret
      rw [HS.out]
      exact SdTo.same H.out 1 HB2.out.1
    | true =>
      have G := (goodB_iff _).1 hgb
      have g1 := G.base
      have g2 := G.count
      have g3 := G.len
      have g4 := encB_len hgb
      have g5 := frB_len hgb
      simp only at g1 g2 g3
      obtain ⟨bn, rfl⟩ : ∃ bn : Nat, q0 = bn := ⟨q0.toNat, by omega⟩
      have hen := fun W (hW : Below w.heap.size w W) => StEnd_any (H.out.below hW).st H.out.ok
      obtain ⟨en, hee⟩ : ∃ en, endS x.segs = en := ⟨_, rfl⟩
      rw [hee] at hen
      have HEN := Lib.hid hen
      have x0 := cells_of HB2.out.2 0 _ rfl
      have hxk : ∀ W, Below w2.heap.size w2 W → W.cell? ⟨bx, 0, none⟩ = some (.int .i64 (bn : Int)) := fun W hW => cells_of ((hW.block bx (Array.getElem?_eq_some_iff.1 HB2.out.2).1).trans HB2.out.2) 0 _ rfl
      have HXK := Lib.hid hxk
      clear hen hxk G
      go_upto_region 6 with fail
      go_region_held3 (fun W' => W'.cell? ⟨bx, 0, none⟩ = some (.int .i64 (bn : Int)))
        (first | with_reducible exact x0 | with_reducible exact HXK.out _ (Below.refl _ _).drew | (have hg := hb3; with_reducible exact HXK.out _ hb3))
        (first | (go_at_call 32; refine (HEN.out _ ?_).mono ?_; (first | with_reducible exact HB2.out.1 | with_reducible exact HB2.out.1.trans ((Below.refl _ _).drew.mono HB2.out.1.size)); rintro _ w3 ⟨rfl, hb3'⟩; have hb3 : Below w2.heap.size w2 w3 := (Below.refl _ w2).drew.trans (hb3'.mono (Nat.le_refl _))))
      have hb03 := HB2.out.1.trans (hb3.mono HB2.out.1.size)
      have hx3 := (hb3.block bx (Array.getElem?_eq_some_iff.1 HB2.out.2).1).trans HB2.out.2
      have HB3 := Lib.hid (And.intro hb03 hx3)
      clear hb03 hx3 hb3 hb3' x0 HXK HEN
      by_cases hbe : (bn : Int) = en
      case neg =>
        have hbe2 : ((bn : Int) != en) = true := by simpa using hbe
        have hs : R = (t, x, 20) := by rw [← HR.out, appS, if_neg (by rw [hrb]; decide), if_neg (by rw [hgb]; decide), if_pos (by rw [hee]; exact hbe)]
        have HS := Lib.hid hs
        clear hs hrb hgb hbx hbe hee
        go_wp2
        go_ret
        rw [HS.out]
        exact SdTo.same H.out 20 HB3.out.1
      case pos =>
        have hbe2 : ((bn : Int) != en) = false := by simpa using hbe
        have hcl := CloneRecs_any (HRR.out.below HB3.out.1) (by omega)
        have HCL := Lib.hid hcl
        have x5 := cells_of HB3.out.2 5 _ rfl
        have z5 : w3.frozen? ⟨bx, 5, none⟩ = false := frozen_of HB3.out.2
        have HBE := Lib.hid (And.intro hrb (And.intro hgb (And.intro hee hbe)))
        clear hcl hrb hgb hee hbe
        go_wp2_with fail
        refine HCL.out.mono ?_
        rintro _ w4 ⟨v4, rfl, ho4, hb4⟩
        obtain ⟨ra, rc, rfl, -⟩ := (Sl.of_owns ho4).shape
        have hb04 := HB3.out.1.trans (hb4.mono HB3.out.1.size)
        have hx4 := (hb4.block bx (Array.getElem?_eq_some_iff.1 HB3.out.2).1).trans HB3.out.2
        have x5 := cells_of hx4 5 _ rfl
        have z5 : w4.frozen? ⟨bx, 5, none⟩ = false := frozen_of hx4
        have hset := upd_set1 w4 bx 5 (.slice ra qr.length rc)
        have hx5 : (w4.setCell ⟨bx, 5, none⟩ (.slice ra qr.length rc)).heap[bx]? = some (.cells #[.int .i64 (bn : Int), .int .i64 q1, .int .i64 q2, .int .i64 q3, .int .i64 q4, .slice ra qr.length rc] 40 (0, 0)) := setCell_same (o := 5) (v := .slice ra qr.length rc) hx4
        have hb05 : Below w.heap.size w (w4.setCell ⟨bx, 5, none⟩ (.slice ra qr.length rc)) := hb04.trans (hset.toBelow hb04.size (fun k e => by rw [e, HXB.out.2.2]; exact Nat.le_refl _))
        have ho5 : (w4.setCell ⟨bx, 5, none⟩ (.slice ra qr.length rc)).ownsRow w.heap.size 84 4 (.slice ra qr.length rc) qr.length (recCells qr) := owns_mono (owns_upd ho4 hset (fun g hg e => by have := (owns_lt ho4 g hg).1; have := (Array.getElem?_eq_some_iff.1 HB3.out.2).1; omega)) HB3.out.1.size
        have HZ := Lib.hid (And.intro hb05 (And.intro hx5 ho5))
        go_upto_region 9 with fail
        obtain ⟨w5, hw5⟩ : ∃ w5, w5 = w4.setCell ⟨bx, 5, none⟩ (.slice ra qr.length rc) := ⟨_, rfl⟩
        rw [← hw5] at HZ ⊢
        clear hw5 hset hx5 hb05 ho5 hx4 hb04 ho4 hb4 x5 z5
        obtain ⟨gv, m, D, hin⟩ := H.out.st
        have HIN := Lib.hid hin
        have hin5 := hin.below HZ.out.1
        have H5 := Lib.hid hin5
        clear hin
        cases hn : x.segs.length with
        | zero =>
          obtain ⟨ga, gc, rfl, hml, -⟩ := hin5.seg
          have hl := Stlast_none hin5 hn
          have HL := Lib.hid hl
          clear hl hin5
          go_wp2_with fail
          refine HL.out.mono ?_
          rintro _ w6 ⟨rfl, hw6⟩
          have hb6 : Below w5.heap.size w5 w6 := by rw [hw6]; exact Below.refl _ _
          clear hw6
          have x0 := cells_of ((hb6.block bx (Array.getElem?_eq_some_iff.1 HZ.out.2.1).1).trans HZ.out.2.1) 0 _ rfl
          go_upto_region 11 with fail
          obtain ⟨nb, hnb⟩ : ∃ nb, w6.heap.size = nb := ⟨_, rfl⟩
          obtain ⟨w7, hw7⟩ : ∃ w7, w7 = w6.alloc (.cells #[.int .i64 (bn : Int), .slice none 0 0, .int .i64 0] 158) := ⟨_, rfl⟩
          have hb57 : Below w5.heap.size w5 w7 := by rw [hw7]; exact hb6.alloc hb6.size _
          have hb07 : Below w.heap.size w w7 := HZ.out.1.trans (hb57.mono HZ.out.1.size)
          have hap : ApB w7 w.heap.size bx nb (bn : Int) q1 q2 q3 q4 (.slice ra qr.length rc) qr (bn : Int) (.slice none 0 0) 0 := by
            refine ⟨(hb57.block bx (Array.getElem?_eq_some_iff.1 HZ.out.2.1).1).trans HZ.out.2.1, by rw [hw7, ← hnb]; exact heap_alloc_new _ _, owns_upd HZ.out.2.2 (Upd.of_below (F := fun _ => False) hb57) (fun _ _ h => h), ?_, ?_⟩
            · rw [HXB.out.2.2]; exact Nat.le_refl _
            · have := HZ.out.1.size; have := hb6.size; omega
          rw [← hw7]
          try rw [hnb]
          have HAP := Lib.hid (And.intro hap hb07)
          clear hw7 hnb hb57 hb07 hap hb6 HL x0

          go_quiet (fail)
          obtain ⟨w8, hw8⟩ : ∃ w8, w8 = w7.drewN nq := ⟨_, rfl⟩
          have hb78 : Below w7.heap.size w7 w8 := by rw [hw8]; exact below_drewN (Below.refl _ _) _
          rw [← hw8]
          clear hw8
          have HA8 := Lib.hid (And.intro (HAP.out.1.below hb78) (HAP.out.2.trans (hb78.mono HAP.out.2.size)))
          have hRf : R = fullS t x ⟨(bn : Int), q1, q2, q3, q4, qr⟩ := by
            have hnil : x.segs.getLast? = none := by rw [List.length_eq_zero_iff.1 hn]; rfl
            rw [← HR.out, appS, if_neg (by rw [HBE.out.1]; decide), if_neg (by rw [HBE.out.2.1]; decide), if_neg (by rw [HBE.out.2.2.1]; exact fun h => h HBE.out.2.2.2), hnil]
          clear hb78 HAP

          have hsy := fun (W : World) (hW : Below w.heap.size w W) => StSync_in hE (H.out.below hW) (HIN.out.below hW)
          have hsg5 := syncS_segs t x
          obtain ⟨rs, hrs⟩ : ∃ r, syncS t x = r := ⟨_, rfl⟩
          rw [fullS, hrs] at hRf
          rw [hrs] at hsy hsg5
          obtain ⟨t5, x5, c5⟩ := rs
          simp only at hRf hsg5
          have HSY := Lib.hid hsy
          have HRF5 := Lib.hid hRf
          have HS5 := Lib.hid hsg5
          clear hsy hsg5 hRf hrs
          go_wp2_with fail
          refine (HSY.out _ HA8.out.2).mono ?_
          rintro _ w9 ⟨L5, rfl, hd5, hi5, hu5, hL5⟩
          simp only at hd5 hi5
          have ap9 := HA8.out.1.upd hu5 (fun k hk => .inl (H.out.lt k hk))
          have HU5 := Lib.hid (And.intro hu5 hL5)
          have H5 := Lib.hid hd5
          have HI5 := Lib.hid hi5
          have HA9 := Lib.hid ap9
          obtain ⟨⟨x0, x1, x2, x3, x4, x5c⟩, -⟩ := ap9.cells
          clear hd5 hi5 ap9 hu5 hL5 HSY
          by_cases hc5 : c5 = 0
          case neg =>
            have hc51 : (c5 != 0) = true := by simpa using hc5
            have hfin : SdTo w0 w S sb b mb L R (.returned (.int .i64 c5)) w9 := by
              rw [HRF5.out, if_pos hc5]
              exact SdTo.since (Upd.of_below HA8.out.2) (fun _ h => .inl h) (fun _ h => .inl h) ⟨S, L5, rfl, H5.out, HU5.out.1, fun _ h => .inl h, HU5.out.2⟩
            have HFIN := Lib.hid hfin
            clear hfin hc5 x0 x1 x2 x3 x4 x5c
            go_wp2
            go_ret
            exact HFIN.out
          case pos =>
            subst hc5
            go_upto_region 16 with fail
            have hfr := Stframed_any HA9.out.one (fun b hb => by simp only [List.mem_singleton] at hb; rw [hb]; exact HBE.out.2.1) (by simp) ((H5.out.env hE).below (below_alloc _ _))
            obtain ⟨db, hdb⟩ : ∃ db, sgB [(⟨(bn : Int), q1, q2, q3, q4, qr⟩ : Batch)] = db := ⟨_, rfl⟩
            have hdb2 : db = frameB (encB ⟨(bn : Int), q1, q2, q3, q4, qr⟩) := by rw [← hdb]; simp [sgB]
            rw [hdb] at hfr
            rw [← hdb2] at g5
            have HFR := Lib.hid hfr
            have HDB := Lib.hid (And.intro hdb2 hdb)
            clear hdb hdb2
            clear hfr
            go_wp2_with fail
            refine HFR.out.mono ?_
            rintro _ w10 ⟨rfl, hb10⟩
            have hb910 : Below w9.heap.size w9 w10 := below_trans (below_alloc _ _) hb10
            have hap10 := HA9.out.below hb910
            have HA := Lib.hid (And.intro hap10 hb910)
            clear hb10 hb910 hap10 x0 x1 x2 x3 x4 x5c HFR
            have hf := fun W (hW : Below w9.heap.size w9 W) => Stfile_any (n := bn) ((H5.out.below hW).env hE) (H5.out.below hW).st H5.out.ok (by omega)
            obtain ⟨fnm, hfm⟩ : ∃ fnm, fileN x5.pre bn = fnm := ⟨_, rfl⟩
            rw [hfm] at hf
            have hts := fun W (hW : Below w9.heap.size w9 W) => TAppend_any (H5.out.tp.below hW) fnm db (by omega)
            obtain ⟨c, hc⟩ : ∃ c, (appT t5 fnm db).2 = c := ⟨_, rfl⟩
            have hnk := appT_names H5.out.names fnm db
            obtain ⟨t', ht'⟩ : ∃ t', (appT t5 fnm db).1 = t' := ⟨_, rfl⟩
            rw [hc, ht'] at hts
            rw [ht'] at hnk
            have hfs : fileS x (bn : Int) = fnm := by rw [fileS, ← hfm, HS5.out.2.1]; rfl
            have hR3 : R = (t', (if c = 0 then { stDid x5 0 with segs := x.segs ++ [⟨(bn : Int), [⟨(bn : Int), q1, q2, q3, q4, qr⟩]⟩] } else stDid x5 c), c) := by rw [HRF5.out, if_neg (by simp), hfs, ← HDB.out.1, hc, ht']
            have hdc := fun W (hW : StIn W S sb b x5 (.slice ga x.segs.length gc) m D) => Stdid_in hW c
            have HF := Lib.hid hf
            have HTS := Lib.hid hts
            have HDC := Lib.hid hdc
            have HNK := Lib.hid hnk
            have HR3 := Lib.hid hR3
            clear hf hts hdc hnk hfs hR3 hfm hc ht'
            have hK : ∀ W, Below w10.heap.size w10 W → W.cell? ⟨sb, 0, none⟩ = some (.pointer (some ⟨b, 0, none⟩)) ∧ W.cell? ⟨nb, 0, none⟩ = some (.int .i64 (bn : Int)) := fun W hW =>
              ⟨(HI5.out.below (HA.out.2.trans (hW.mono HA.out.2.size))).cells.1, (HA.out.1.below hW).cells.2.1.1⟩
            obtain ⟨k0, k1⟩ := hK w10 (Below.refl _ _)
            have hfS : ∀ k, SdF S b mb L5 k → k < w9.heap.size := H5.out.lt
            have hsS := H5.out.st.own
            have hnb9 : w.heap.size ≤ nb ∧ ¬ TpF b mb L5 nb ∧ (∀ c, (Value.slice ra qr.length rc).ownBlock = some c → w.heap.size ≤ c ∧ ¬ TpF b mb L5 c) := by
              have h1 := HA8.out.1.lt.2
              have h2 := HA8.out.1.new.2
              refine ⟨h2, fun h => ?_, fun c hc => ?_⟩
              · rcases TpF.new HU5.out.2 nb h with h | h
                · have := H.out.tp.fLt nb h; omega
                · omega
              · have h3 := owns_lt HA8.out.1.recs c hc
                refine ⟨h3.1, fun h => ?_⟩
                rcases TpF.new HU5.out.2 c h with h | h
                · have := H.out.tp.fLt c h; omega
                · omega
            have hfN : ∀ k, TpF b mb L5 k → k < w.heap.size ∨ w8.heap.size ≤ k := fun k hk => (TpF.new HU5.out.2 k hk).elim (fun h => .inl (H.out.tp.fLt k h)) .inr
            have HNB := Lib.hid hnb9
            have hap : ∀ W W', ApB W w.heap.size bx nb (bn : Int) q1 q2 q3 q4 (.slice ra qr.length rc) qr (bn : Int) (.slice none 0 0) 0 → Upd (TpF b mb L5) W W' → ApB W' w.heap.size bx nb (bn : Int) q1 q2 q3 q4 (.slice ra qr.length rc) qr (bn : Int) (.slice none 0 0) 0 := fun W W' hA hu => by
              have e1 : bx < w8.heap.size := HA8.out.1.lt.1
              have e2 := hA.new.1
              refine ⟨(hu.block bx hA.lt.1 (fun h => ?_)).trans hA.bat, (hu.block nb hA.lt.2 (fun h => HNB.out.2.1 h)).trans hA.seg, owns_upd hA.recs hu (fun c hc h => (HNB.out.2.2 c hc).2 h), hA.new⟩
              rcases hfN bx h with h | h <;> omega
            have HAPU := Lib.hid hap
            have HFS := Lib.hid hfS
            have HSS := Lib.hid hsS
            have HK := Lib.hid hK
            clear hK hfS hsS hap hnb9 hfN
            go_upto_region 17 with fail
            go_region_held3 (fun W' => W'.cell? ⟨sb, 0, none⟩ = some (.pointer (some ⟨b, 0, none⟩)) ∧ W'.cell? ⟨nb, 0, none⟩ = some (.int .i64 (bn : Int)))
              (first | with_reducible exact ⟨k0, k1⟩ | with_reducible exact HK.out _ (Below.refl _ _).drew | (have hg := hk5; with_reducible exact hk5) | (have hg := hk4; with_reducible exact hk4) | (have hg := hk3; with_reducible exact hk3))
              (first
                | (go_at_call 91; refine (HF.out _ ?_).mono ?_; (first | with_reducible exact HA.out.2 | with_reducible exact HA.out.2.trans ((Below.refl _ _).drew.mono HA.out.2.size)); rintro _ w11 ⟨rfl, hb11⟩; have hb1011 : Below w10.heap.size w10 w11 := (Below.refl _ w10).drew.trans (hb11.mono (Nat.le_refl _)); have hk3 := HK.out w11 hb1011; have h03 := HA.out.2.trans (hb1011.mono HA.out.2.size); have ap11 := HA.out.1.below hb1011)
                | (go_at_call 44; have hg := h03; refine (HTS.out _ h03).mono ?_; rintro _ w12 ⟨rfl, L4, ht4, hu4, hn4⟩; have hi4 := Sd.tapeIn (HI5.out.below h03) H5.out.apart hu4; have ap12 := HAPU.out _ _ ap11 hu4; have hk4 := And.intro hi4.cells.1 ap12.cells.2.1.1)
                | (go_at_call 90; have hg := hi4; refine (HDC.out _ hi4).mono ?_; rintro _ w13 ⟨rfl, hi5, hu5⟩; have ap13 := ap12.upd hu5 (fun k hk => .inl (by rw [hk]; exact H.out.st.lt sb HSS.out)); have hk5 := And.intro hi5.cells.1 ap13.cells.2.1.1))
            have hact := SdTo.since (L := L) (S := S) (w := w) ((Upd.of_below HA8.out.2).trans HU5.out.1) (fun _ h => .inl h) (fun k hk => (HU5.out.2 k hk).imp id (fun h => Nat.le_trans HA8.out.2.size h)) (SdTo.acted H5.out h03 ht4 hu4 hn4 HNK.out ⟨_, _, _, hi5⟩ hu5)
            by_cases hc0 : c = 0
            · subst hc0
              have hres : R = (t', { x5 with segs := x5.segs ++ [⟨(bn : Int), [⟨(bn : Int), q1, q2, q3, q4, qr⟩]⟩] }, 0) := by rw [HR3.out, if_pos rfl, stDid_zero, HS5.out.1]
              have hi6 : StIn w13 S sb b x5 (.slice ga x.segs.length gc) m D := by have e := hi5; simpa using e
              have hlenm : m.length = x.segs.length := by rw [hi6.len, HS5.out.1]
              obtain ⟨-, ⟨n0, n1, n2⟩, -⟩ := ap13.cells
              have HRES := Lib.hid hres
              have HI6 := Lib.hid hi6
              have HA13 := Lib.hid ap13
              have HT13 := Lib.hid (And.intro h03 (And.intro hu4 (And.intro hn4 (And.intro ht4 hu5))))
              have HLT := Lib.hid (And.intro ap11.lt.2 (owns_lt ap11.recs))
              have HLM := Lib.hid hlenm
              clear hres hi6 ap13 hlenm hact HR3 hi5 hu5 ht4 hu4 hn4 h03 hk3 hk4 hk5 ap11 ap12 k0 k1 hi4 hb11 hb1011 HA HF HTS HDC HK
              go_upto_region 20 with fail
              go_cut [11] from 75 to 91 (fun v11 wc => v11 = .bool false ∧ Below w13.heap.size w13 wc)
              case first =>
                go_quiet (fail)
                go_wp2
                go_meet
                exact ⟨rfl, below_drewN (Below.refl _ _) _⟩
              case rest =>
                obtain ⟨rfl, hbc⟩ := hcut
                obtain ⟨w14, hw14⟩ : ∃ w14, w14 = wc := ⟨_, rfl⟩
                subst hw14
                have ap14 := HA13.out.below hbc
                have HA14 := Lib.hid (And.intro ap14 hbc)
                obtain ⟨⟨x0, x1, x2, x3, x4, x5c⟩, ⟨n0, n1, n2⟩, -⟩ := ap14.cells
                have hrf : ∀ W o, Below w14.heap.size w14 W → Rd (W.alloc o) 6 (.slice none 0 0) 0 (bCells []) := fun W o hW => ⟨rfl, .inl ⟨rfl, rfl⟩⟩
                have HRF := Lib.hid hrf
                clear hrf ap14 hbc
                obtain ⟨i0, hi, hz0, hz1, hz2⟩ := info_parts info_Batch6
                have hsa : ∀ o, w14.heap.size ≤ (w14.drew.alloc o).heap.size := fun o => by simp only [World.size_alloc]; exact Nat.le_succ _
                have n1a : ∀ o, (w14.alloc o).cell? ⟨nb, 1, none⟩ = some (.slice none 0 0) := fun o => ((HA14.out.1.below (below_alloc w14 o)).cells).2.1.2.1
                go_upto_region 21 with fail
                go_cut [] from 92 to 98 (fun wd => Grew w14 wd w.heap.size bx nb (bn : Int) q1 q2 q3 q4 (.slice ra qr.length rc) qr (bn : Int) 0 0 [])
                case first =>
                  go_region_law
                    (first
                      | (go_simp; go_at_call 92; refine (ClipBatch_any none 0 0 (Nat.le_refl _) (fun _ => ⟨rfl, rfl⟩) (by decide) _).mono ?_; rintro _ _ ⟨rfl, rfl⟩)
                      | (refine step_append_full2 _ (by rfl) _ _ _ (by rfl) 40 i0 _ 6 64 und_Batches6 hi hz0 hz1 hz2 rfl (.slice none 0 0) 0 (bCells []) (by rfl) ⟨_, rfl⟩ (HRF.out _ _ (by first | with_reducible exact (Below.refl _ _).drew | with_reducible exact Below.refl _ _)) ⟨w14.heap.size, 0, none⟩ 1 1 [.int .i64 (bn : Int), .int .i64 q1, .int .i64 q2, .int .i64 q3, .int .i64 q4, .slice ra qr.length rc] (by rfl) (by rfl) (World.news_of_block (cs := #[.int .i64 (bn : Int), .int .i64 q1, .int .i64 q2, .int .i64 q3, .int .i64 q4, .slice ra qr.length rc]) (t := 40) (fr := (0, 0)) (heap_alloc_new w14.drew _)) (by omega) (by omega) (by omega) ?_; rintro g16 cp16 w16 hg16 hown hbw; have hb16 : Below w14.heap.size w14 w16 := ((Below.refl _ w14).drew.alloc (Nat.le_refl _) _).trans (hbw.mono (hsa _)); have hge : w14.heap.size ≤ g16 := Nat.le_trans (hsa _) hg16; have hown2 := owns_mono (base' := w14.heap.size) hown (hsa _); have ap16 := HA14.out.1.below hb16; obtain ⟨-, ⟨-, e1, -⟩, -, e2, -⟩ := ap16.cells; have HX := Lib.hid (And.intro hb16 (And.intro hge hown2)); clear hb16 hge hown2 ap16 hown hbw hg16))
                  all_goals
                    go_wp2_with fail
                    go_meet
                    exact Grew.of HA14.out.1 HX.out.1 HX.out.2.1 HX.out.2.2
                case rest =>
                  obtain ⟨g, cp, hge, hown, hap15, hu15⟩ := hcut
                  obtain ⟨w15, hw15⟩ : ∃ w15, w15 = wc := ⟨_, rfl⟩
                  subst hw15
                  clear hi hz0 hz1 hz2
                  rw [Nat.zero_add] at hown hap15
                  have hnw : w.heap.size ≤ nb := HA14.out.1.new.2
                  have hi15 := (HI6.out.below HA14.out.2).upd hu15 (fun k hk e => by have := H.out.st.lt k hk; omega)
                  obtain ⟨-, ⟨n0, n1, n2⟩, z0, z1, z2⟩ := hap15.cells
                  obtain ⟨ty, hty⟩ : ∃ ty : Nat, db.length = ty := ⟨_, rfl⟩
                  have htb : ty ≤ 140737488355328 := by omega
                  have hwr3 : wrap64 (db.length : Int) = (ty : Int) := ap_one hty htb
                  have hwr3 : wrap64 (db.length : Int) = (ty : Int) := ap_one hty htb
                  have hwr3 : wrap64 (db.length : Int) = (ty : Int) := ap_one hty htb
                  have hwr1 : wrap64 (0 + (db.length : Int)) = (ty : Int) := by rw [Int.zero_add]; exact hwr3
                  have hwr2 : wrap64 (0 + ((bs db).size : Int)) = (ty : Int) := by rw [bs_size]; exact hwr1
                  have hwr4 : wrap64 ((bs db).size : Int) = (ty : Int) := by rw [bs_size]; exact hwr3
                  have HTY := Lib.hid hty
                  clear hty htb
                  go_upto_region 25 with fail
                  obtain ⟨w16, hw16⟩ : ∃ w16, w16 = w15.setCell ⟨nb, 2, none⟩ (.int .i64 (ty : Int)) := ⟨_, rfl⟩
                  rw [← hw16]
                  have hset := upd_set1 w15 nb 2 (.int .i64 (ty : Int))
                  rw [← hw16] at hset
                  have hap16 := hap15.setBytes (ty : Int)
                  rw [← hw16] at hap16
                  have hi16 := hi15.upd hset (fun k hk e => by have := H.out.st.lt k hk; omega)
                  obtain ⟨-, ⟨n0, n1, n2⟩, -⟩ := hap16.cells
                  have hDn : ∀ k, D k → k < w.heap.size := fun k hk => H.out.st.lt k (HI6.out.apart k hk).1
                  have hsbl := H.out.st.lt sb H.out.st.own
                  have hz1 := HT13.out.1.size
                  have hz2 := HT13.out.2.1.size
                  have hz3 := HT13.out.2.2.2.2.size
                  have hz4 := HA14.out.2.size
                  have hz5 := hu15.size
                  have hz6 := hset.size
                  have hz7 := HU5.out.1.size
                  have hz8 := HA8.out.2.size
                  have hglt := (owns_lt hown g rfl).2
                  have hgnb := HA14.out.1.lt.2
                  have hgvl : ∀ k, ((.slice ga x.segs.length gc) : Value).ownBlock = some k → k < w.heap.size := fun k hk => H.out.st.lt k (HI6.out.ownG k hk)
                  have hbl : BsIn w16 (fun c => False ∨ (Value.slice (some ⟨g, 0, none⟩) 1 cp).ownBlock = some c ∨ (Value.slice ra qr.length rc).ownBlock = some c) (.slice (some ⟨g, 0, none⟩) 1 cp) ([] ++ [⟨(bn : Int), q1, q2, q3, q4, qr⟩]) := by
                    refine BsIn.more (m := []) rfl (fun x hx => by cases hx) (N := w14.heap.size) ?_ (owns_inS hap16.recs (fun _ hg => hg))
                    exact owns_upd hown hset (fun k hk e => by
                      simp only [Value.ownBlock, Option.some.injEq] at hk
                      omega)
                  rw [List.nil_append] at hbl
                  have hlen : (sgB [(⟨(bn : Int), q1, q2, q3, q4, qr⟩ : Batch)]).length = ty := by rw [HDB.out.2]; exact HTY.out
                  have hi17 : StIn w16.drew S sb b x5 (.slice ga x.segs.length gc) m D := hi16.below (Below.refl _ _).drew
                  have hbl17 : BsIn w16.drew (fun c => False ∨ (Value.slice (some ⟨g, 0, none⟩) 1 cp).ownBlock = some c ∨ (Value.slice ra qr.length rc).ownBlock = some c) (.slice (some ⟨g, 0, none⟩) 1 cp) [⟨(bn : Int), q1, q2, q3, q4, qr⟩] := hbl.below (Below.refl _ _).drew
                  have hd1 : ∀ c, (False ∨ (Value.slice (some ⟨g, 0, none⟩) 1 cp).ownBlock = some c ∨ (Value.slice ra qr.length rc).ownBlock = some c) → c < w16.drew.heap.size ∧ c ≠ sb ∧ ((.slice ga x.segs.length gc) : Value).ownBlock ≠ some c := by
                    have hzd : w16.drew.heap.size = w16.heap.size := rfl
                    rw [hzd]
                    rintro c (hc | hc | hc)
                    · exact hc.elim
                    · simp only [Value.ownBlock, Option.some.injEq] at hc
                      exact ⟨by omega, by omega, fun e => by have := hgvl c e; omega⟩
                    · have h1 := HLT.out.2 c hc
                      exact ⟨by omega, by omega, fun e => by have := hgvl c e; omega⟩
                  have hpu : ∀ (g9 cp9 : Nat) (W2 : World) (ob : Obj), W2.ownsRow 0 158 3 (.slice (some ⟨g9, 0, none⟩) (x.segs.length + 1) cp9) (x.segs.length + 1) (sgCells m ++ [.int .i64 (bn : Int), .slice (some ⟨g, 0, none⟩) 1 cp, .int .i64 (ty : Int)]) → (w16.drew.alloc ob).grownBy W2 ((.slice ga x.segs.length gc) : Value).ownBlock → (((.slice ga x.segs.length gc) : Value).ownBlock = some g9 ∨ g9 = (w16.drew.alloc ob).heap.size) →
                      W2.cell? ⟨sb, 3, none⟩ = some (.slice ga x.segs.length gc) ∧ W2.frozen? ⟨sb, 3, none⟩ = false ∧ SdTo w0 w S sb b mb L R (.returned (.int .i64 0)) (W2.setCell ⟨sb, 3, none⟩ (.slice (some ⟨g9, 0, none⟩) (x.segs.length + 1) cp9)) := by
                    intro g9 cp9 W2 ob h1 h2 h3
                    rw [← HLM.out, ← hlen] at h1
                    obtain ⟨p1, p2, p3, p4⟩ := hi17.push h1 h2 h3 hbl17 hd1
                    rw [HLM.out] at p2 p3
                    refine ⟨cells_of (p1.trans hi17.blk) 3 _ rfl, frozen_of (p1.trans hi17.blk), ?_⟩
                    rw [HRES.out]
                    refine ap_fin H.out (((Upd.of_below HA8.out.2).trans HU5.out.1).trans (Upd.of_below HT13.out.1)) (fun _ h => .inl h) (fun k hk => (HU5.out.2 k hk).imp id (fun h => by omega)) (H5.out.below HT13.out.1) (Below.refl _ _) HT13.out.2.1 HT13.out.2.2.1 HT13.out.2.2.2.1 HNK.out HT13.out.2.2.2.2 (nb := nb) ⟨hnw, HLT.out.1, HNB.out.2.1⟩ ((((Upd.of_below HA14.out.2).trans hu15).trans hset).trans (Upd.of_below (Below.refl _ _).drew)) p3 ⟨_, _, _, p2⟩ (StOk.push H5.out.ok HBE.out.2.1) (fun k hk => ?_)
                    rcases hk with hk | (hk | hk | hk) | hk
                    · exact .inl hk
                    · exact hk.elim
                    · simp only [Value.ownBlock, Option.some.injEq] at hk
                      exact .inr (.inr (by omega))
                    · have h1 := HLT.out.2 k hk
                      exact .inr (.inl ⟨h1.1, h1.2, (HNB.out.2.2 k hk).2⟩)
                    · by_cases hlt : k < w16.heap.size
                      · exact .inl (by rw [hk]; exact p4 (by rw [← hk]; exact hlt))
                      · exact .inr (.inr (by omega))
                  have c3 := hi16.cells.2.2.2.1
                  have c3a : ∀ o, (w16.alloc o).cell? ⟨sb, 3, none⟩ = some (.slice ga x.segs.length gc) := fun o => (hi16.below (below_alloc w16 o)).cells.2.2.2.1
                  have hrow : ∀ o, (w16.drew.alloc o).ownsRow 0 158 3 (.slice ga x.segs.length gc) x.segs.length (sgCells m) := fun o => by
                    have e := hi17.row.alloc o
                    rw [HLM.out] at e
                    exact e
                  have HPU := Lib.hid hpu
                  have HROW := Lib.hid hrow
                  clear  hn hge hown hap15 hu15 hi15 hset hap16 hi16 hbl hi17 hbl17 hd1 hpu hrow hw16 hlen hgvl hDn HA14 HA13 HT13 HLT HI6 HU5 H5 HI5 HA8 HA9 HRES HRF n1a hsa hwr1 hwr2 hwr3 hwr4 z0 z1 z2 hz1 hz2 hz3 hz4 hz5 hz6 hz7 hz8
                  obtain ⟨i1, hi, hy0, hy1, hy2⟩ := info_parts info_seg
                  go_region_law
                    (refine step_append_lies _ (by rfl) _ _ _ (by rfl) 0 158 i1 _ 3 40 und_segs hi hy0 hy1 hy2 rfl (by omega) (.slice ga x.segs.length gc) x.segs.length (sgCells m) (by rfl) (HROW.out _) ⟨w16.heap.size, 0, none⟩ 1 1 [.int .i64 (bn : Int), .slice (some ⟨g, 0, none⟩) 1 cp, .int .i64 (ty : Int)] (by rfl) (by rfl) (World.news_of_block (cs := #[.int .i64 (bn : Int), .slice (some ⟨g, 0, none⟩) 1 cp, .int .i64 (ty : Int)]) (t := 158) (fr := (0, 0)) (heap_alloc_new w16.drew _)) (by simp [Value.oneCell']) (by omega) ?_ ?_ ?_ _ rfl ?_; (unfold maxLen; omega); omega; omega; rintro g9 gcap9 w17 hown9 hgrow9 hat9 hlt9; obtain ⟨e3, ef, hfin⟩ := HPU.out _ _ _ _ hown9 hgrow9 hat9; have HFIN := Lib.hid hfin; clear hfin hown9 hgrow9 hat9 hlt9)
                  all_goals
                    go_wp2
                    go_ret
                    exact HFIN.out
            · have hc1 : (c != 0) = true := by simpa using hc0
              have hfin : SdTo w0 w S sb b mb L R (.returned (.int .i64 c)) w13 := by rw [HR3.out, if_neg hc0]; exact hact
              have HFIN := Lib.hid hfin
              clear hact hfin hi5 hu5 ht4 hu4 hn4 h03 hk3 hk4 hk5 ap11 ap12 ap13 k0 k1 hi4 hb11 hb1011 hc0
              go_wp2
              go_ret
              exact HFIN.out
        | succ n =>
          obtain ⟨ga, gc, rfl, hml, hsg⟩ := hin5.seg
          obtain ⟨gb, -, -, rfl, -⟩ := hsg n (by omega)
          have hl := Stlast_some hin5 hn
          have HL := Lib.hid hl
          clear hl hin5 hsg
          go_wp2_with fail
          refine HL.out.mono ?_
          rintro _ w6 ⟨bq, hbq, rfl, hb6⟩
          obtain rfl : gb = bq := by simpa [Value.ownBlock] using hbq
          have x0 := cells_of ((hb6.block bx (Array.getElem?_eq_some_iff.1 HZ.out.2.1).1).trans HZ.out.2.1) 0 _ rfl
          go_upto_region 11 with fail
          obtain ⟨nb, hnb⟩ : ∃ nb, w6.heap.size = nb := ⟨_, rfl⟩
          obtain ⟨w7, hw7⟩ : ∃ w7, w7 = w6.alloc (.cells #[.int .i64 (bn : Int), .slice none 0 0, .int .i64 0] 158) := ⟨_, rfl⟩
          have hb57 : Below w5.heap.size w5 w7 := by rw [hw7]; exact hb6.alloc hb6.size _
          have hb07 : Below w.heap.size w w7 := HZ.out.1.trans (hb57.mono HZ.out.1.size)
          have hap : ApB w7 w.heap.size bx nb (bn : Int) q1 q2 q3 q4 (.slice ra qr.length rc) qr (bn : Int) (.slice none 0 0) 0 := by
            refine ⟨(hb57.block bx (Array.getElem?_eq_some_iff.1 HZ.out.2.1).1).trans HZ.out.2.1, by rw [hw7, ← hnb]; exact heap_alloc_new _ _, owns_upd HZ.out.2.2 (Upd.of_below (F := fun _ => False) hb57) (fun _ _ h => h), ?_, ?_⟩
            · rw [HXB.out.2.2]; exact Nat.le_refl _
            · have := HZ.out.1.size; have := hb6.size; omega
          rw [← hw7]
          try rw [hnb]
          have hin7 := HIN.out.below hb07
          have HAP := Lib.hid (And.intro hap hb07)
          have HI7 := Lib.hid hin7
          clear hw7 hnb hb57 hb07 hap hb6 hbq HL x0
          have hmn : n < m.length := by have := hin7.len; omega
          obtain ⟨s0, s1, s2, sf, -⟩ := hin7.segk n hmn
          have hgm : m[n].2 = x.segs[n]'(by omega) := by simp only [← hin7.segs, List.getElem_map]
          have hgo := H.out.ok.segs _ (List.getElem_mem (show n < x.segs.length by omega))
          rw [hgm] at s0 s2
          have hBsn := hin7.lists _ (List.getElem_mem hmn)
          rw [hgm] at hBsn
          have hsz2 := hin7.cells.2.2.1
          obtain ⟨lv, hlv⟩ : ∃ lv, m[n].1 = lv := ⟨_, rfl⟩
          rw [hlv] at s1 hBsn
          have hlast := last_at hn
          obtain ⟨g, hg⟩ : ∃ g, x.segs[n]'(by omega) = g := ⟨_, rfl⟩
          rw [hg] at s0 s2 hBsn hgo hlast
          obtain ⟨gbs, gl⟩ := g
          simp only at s0 s2 hBsn hgo
          obtain ⟨gn, rfl⟩ : ∃ gn : Nat, gbs = gn := ⟨gbs.toNat, by omega⟩
          obtain ⟨la, lc, rfl, hlc, hlm, hl0⟩ := BsRd.cells hBsn.here
          obtain ⟨ln, hln⟩ : ∃ ln, gl.length = ln := ⟨_, rfl⟩
          rw [hln] at s1 hBsn hlc hlm hlv
          have hszr := H.out.ok.size
          obtain ⟨gy, hgy⟩ : ∃ gy : Nat, (sgB gl).length = gy := ⟨_, rfl⟩
          rw [hgy] at s2
          obtain ⟨xs, hxs⟩ : ∃ xs, x.size = xs := ⟨_, rfl⟩
          rw [hxs] at hsz2 hszr
          have HG := Lib.hid (And.intro hBsn (And.intro hgo (And.intro hlast (And.intro hgm (And.intro hlv (And.intro hg (And.intro hgy (And.intro hxs hln))))))))
          clear hl0 hln hin7 hBsn hlast hgm hlv hg hgy hxs hgo
          by_cases hfit : (gy : Int) < xs
          · go_quiet (fail)
            obtain ⟨w8, hw8⟩ : ∃ w8, w8 = w7.drewN nq := ⟨_, rfl⟩
            have hb78 : Below w7.heap.size w7 w8 := by rw [hw8]; exact below_drewN (Below.refl _ _) _
            rw [← hw8]
            clear hw8
            have hap8 := HAP.out.1.below hb78
            have hin8 := HI7.out.below hb78
            have hb08 := HAP.out.2.trans (hb78.mono HAP.out.2.size)
            obtain ⟨-, ⟨n0, n1, n2⟩, z0, z1, z2⟩ := hap8.cells
            have s0 := below_some hb78 s0 (World.block_lt_of_cell? _ _ s0)
            have s1 := below_some hb78 s1 (World.block_lt_of_cell? _ _ s1)
            have s2 := below_some hb78 s2 (World.block_lt_of_cell? _ _ s2)
            have hap9 := hap8.setSeg (gn : Int) (.slice la ln lc) (gy : Int)
            have hu9 : Upd (fun k => k = nb) w8 (((w8.setCell ⟨nb, 0, none⟩ (.int .i64 (gn : Int))).setCell ⟨nb, 1, none⟩ (.slice la ln lc)).setCell ⟨nb, 2, none⟩ (.int .i64 (gy : Int))) := ((upd_set1 w8 nb 0 _).trans (upd_set1 _ nb 1 _)).trans (upd_set1 _ nb 2 _)
            have hb09 := hb08.trans (hu9.toBelow hb08.size (fun k e => by rw [e]; exact hap8.new.2))
            have HA9 := Lib.hid (And.intro hap9 hb09)
            go_upto_region 16 with fail
            obtain ⟨w9, hw9⟩ : ∃ w9, w9 = ((w8.setCell ⟨nb, 0, none⟩ (.int .i64 (gn : Int))).setCell ⟨nb, 1, none⟩ (.slice la ln lc)).setCell ⟨nb, 2, none⟩ (.int .i64 (gy : Int)) := ⟨_, rfl⟩
            rw [← hw9] at HA9 ⊢
            clear hb78 hap8 hin8 hb08 n0 n1 n2 z0 z1 z2 s0 s1 s2 hap9 hu9 hb09 hw9 hsz2 sf HAP HI7
            have hfr := Stframed_any HA9.out.1.one (fun b hb => by simp only [List.mem_singleton] at hb; rw [hb]; exact HBE.out.2.1) (by simp) (((H.out.below HA9.out.2).env hE).below (below_alloc _ _))
            obtain ⟨db, hdb⟩ : ∃ db, sgB [(⟨(bn : Int), q1, q2, q3, q4, qr⟩ : Batch)] = db := ⟨_, rfl⟩
            have hdb2 : db = frameB (encB ⟨(bn : Int), q1, q2, q3, q4, qr⟩) := by rw [← hdb]; simp [sgB]
            rw [hdb] at hfr
            rw [← hdb2] at g5
            have HFR := Lib.hid hfr
            have HDB := Lib.hid hdb2
            clear hdb hdb2
            obtain ⟨⟨x0, x1, x2, x3, x4, x5⟩, -⟩ := HA9.out.1.cells
            clear hfr
            go_wp2_with fail
            refine HFR.out.mono ?_
            rintro _ w10 ⟨rfl, hb10⟩
            have hb910 : Below w9.heap.size w9 w10 := below_trans (below_alloc _ _) hb10
            have hap10 := HA9.out.1.below hb910
            have hb010 := HA9.out.2.trans (hb910.mono HA9.out.2.size)
            have HA := Lib.hid (And.intro hap10 hb010)
            clear hb10 hb910 hap10 hb010 x0 x1 x2 x3 x4 x5 HA9 HFR
            have hf := fun W (hW : Below w.heap.size w W) => Stfile_any (n := gn) ((H.out.below hW).env hE) (H.out.below hW).st H.out.ok (by have := HG.out.2.1; omega)
            obtain ⟨fnm, hfm⟩ : ∃ fnm, fileN x.pre gn = fnm := ⟨_, rfl⟩
            rw [hfm] at hf
            have hts := fun W (hW : Below w.heap.size w W) => TAppend_any (H.out.tp.below hW) fnm db (by omega)
            obtain ⟨c, hc⟩ : ∃ c, (appT t fnm db).2 = c := ⟨_, rfl⟩
            have hnk := appT_names H.out.names fnm db
            obtain ⟨t', ht'⟩ : ∃ t', (appT t fnm db).1 = t' := ⟨_, rfl⟩
            rw [hc, ht'] at hts
            rw [ht'] at hnk
            have hrs : R = moreS t x n ⟨(gn : Int), gl⟩ ⟨(bn : Int), q1, q2, q3, q4, qr⟩ := by
              rw [← HR.out, appS, if_neg (by rw [HBE.out.1]; decide), if_neg (by rw [HBE.out.2.1]; decide), if_neg (by rw [HBE.out.2.2.1]; exact fun h => h HBE.out.2.2.2), HG.out.2.2.1]
              simp only
              rw [if_pos (by rw [HG.out.2.2.2.2.2.2.1, HG.out.2.2.2.2.2.2.2.1]; exact hfit), hn]
              rfl
            have hfs : fileS x (gn : Int) = fnm := by rw [fileS, ← hfm]; rfl
            have hR3 : R = (t', (if c = 0 then { stDid x 0 with segs := x.segs.set n ⟨(gn : Int), gl ++ [⟨(bn : Int), q1, q2, q3, q4, qr⟩]⟩ } else stDid x c), c) := by rw [hrs, moreS, hfs, ← HDB.out, hc, ht']
            have hdc := fun W (hW : StIn W S sb b x (.slice (some ⟨gb, 0, none⟩) x.segs.length gc) m D) => Stdid_in hW c
            have HF := Lib.hid hf
            have HTS := Lib.hid hts
            have HDC := Lib.hid hdc
            have HNK := Lib.hid hnk
            have HR3 := Lib.hid hR3
            clear hf hts hdc hnk hrs hfs hR3 hfm hc ht'
            have hK : ∀ W, Below w10.heap.size w10 W → W.cell? ⟨sb, 0, none⟩ = some (.pointer (some ⟨b, 0, none⟩)) ∧ W.cell? ⟨nb, 0, none⟩ = some (.int .i64 (gn : Int)) := fun W hW =>
              ⟨(HIN.out.below (HA.out.2.trans (hW.mono HA.out.2.size))).cells.1, (HA.out.1.below hW).cells.2.1.1⟩
            obtain ⟨k0, k1⟩ := hK w10 (Below.refl _ _)
            have hfS : ∀ k, SdF S b mb L k → k < w.heap.size := H.out.lt
            have HFS := Lib.hid hfS
            have hsS := H.out.st.own
            have HSS := Lib.hid hsS
            have HK := Lib.hid hK
            clear hK hfS hsS
            go_upto_region 17 with fail
            go_region_held3 (fun W' => W'.cell? ⟨sb, 0, none⟩ = some (.pointer (some ⟨b, 0, none⟩)) ∧ W'.cell? ⟨nb, 0, none⟩ = some (.int .i64 (gn : Int)))
              (first | with_reducible exact ⟨k0, k1⟩ | with_reducible exact HK.out _ (Below.refl _ _).drew | (have hg := hk5; with_reducible exact hk5) | (have hg := hk4; with_reducible exact hk4) | (have hg := hk3; with_reducible exact hk3))
              (first
                | (go_at_call 91; refine (HF.out _ ?_).mono ?_; (first | with_reducible exact HA.out.2 | with_reducible exact HA.out.2.trans ((Below.refl _ _).drew.mono HA.out.2.size)); rintro _ w11 ⟨rfl, hb11⟩; have hb1011 : Below w10.heap.size w10 w11 := (Below.refl _ w10).drew.trans (hb11.mono (Nat.le_refl _)); have hk3 := HK.out w11 hb1011; have h03 := HA.out.2.trans (hb1011.mono HA.out.2.size); have ap11 := HA.out.1.below hb1011)
                | (go_at_call 44; have hg := h03; refine (HTS.out _ h03).mono ?_; rintro _ w12 ⟨rfl, L4, ht4, hu4, hn4⟩; have hi4 := Sd.tapeIn (HIN.out.below h03) H.out.apart hu4; have ap12 := ap11.upd hu4 (fun k hk => .inl (HFS.out k (.inr hk))); have hk4 := And.intro hi4.cells.1 ap12.cells.2.1.1)
                | (go_at_call 90; have hg := hi4; refine (HDC.out _ hi4).mono ?_; rintro _ w13 ⟨rfl, hi5, hu5⟩; have ap13 := ap12.upd hu5 (fun k hk => .inl (by rw [hk]; exact HFS.out sb (.inl HSS.out))); have hk5 := And.intro hi5.cells.1 ap13.cells.2.1.1))
            have hact := SdTo.acted H.out h03 ht4 hu4 hn4 HNK.out ⟨_, _, _, hi5⟩ hu5
            by_cases hc0 : c = 0
            · subst hc0
              have hres : R = (t', { x with segs := x.segs.set n ⟨(gn : Int), gl ++ [⟨(bn : Int), q1, q2, q3, q4, qr⟩]⟩ }, 0) := by rw [HR3.out, if_pos rfl, stDid_zero]
              have hi6 : StIn w13 S sb b x (.slice (some ⟨gb, 0, none⟩) x.segs.length gc) m D := by have e := hi5; simpa using e
              obtain ⟨m0, hm1, hm2, hm3⟩ : BsIn w13 D (.slice la ln lc) gl := by
                have e := hi6.lists _ (List.getElem_mem hmn)
                rw [HG.out.2.2.2.1, HG.out.2.2.2.2.2.1, HG.out.2.2.2.2.1] at e
                exact e
              have hml0 : m0.length = ln := by rw [← HG.out.2.2.2.2.2.2.2.2, ← hm1, List.length_map]
              obtain ⟨s0, s1, s2, sf, -⟩ := hi6.segk n hmn
              rw [HG.out.2.2.2.1, HG.out.2.2.2.2.2.1] at s0
              simp only at s0
              obtain ⟨-, ⟨n0, n1, n2⟩, -⟩ := ap13.cells
              have HRES := Lib.hid hres
              have HI6 := Lib.hid hi6
              have HM0 := Lib.hid (And.intro hm1 (And.intro hm2 hm3))
              have HA13 := Lib.hid ap13
              have HT13 := Lib.hid (And.intro h03 (And.intro hu4 (And.intro hn4 (And.intro ht4 hu5))))
              have HLT := Lib.hid (And.intro ap11.lt.2 (owns_lt ap11.recs))
              clear hres hi6 hm1 hm2 hm3 ap13 s1 s2 sf hact HR3 hi5 hu5 ht4 hu4 hn4 h03 hk3 hk4 hk5 ap11 ap12 k0 k1 hi4 hb11 hb1011 HA HF HTS HDC HK
              go_upto_region 20 with fail
              go_cut [11] from 75 to 91 (fun v11 wc => v11 = .bool true ∧ Below w13.heap.size w13 wc)
              case first =>
                by_cases hl0 : 0 < ln
                · have hd : decide (0 < ln) = true := by simpa using hl0
                  clear hl0
                  go_quiet (fail)
                  go_wp2
                  go_meet
                  exact ⟨rfl, below_drewN (Below.refl _ _) _⟩
                · obtain rfl : ln = 0 := by omega
                  clear hl0
                  go_quiet (fail)
                  go_wp2
                  go_meet
                  exact ⟨rfl, below_drewN (Below.refl _ _) _⟩
              case rest =>
                obtain ⟨rfl, hbc⟩ := hcut
                obtain ⟨w14, hw14⟩ : ∃ w14, w14 = wc := ⟨_, rfl⟩
                subst hw14
                have ap14 := HA13.out.below hbc
                have HA14 := Lib.hid (And.intro ap14 hbc)
                obtain ⟨⟨x0, x1, x2, x3, x4, x5⟩, ⟨n0, n1, n2⟩, -⟩ := ap14.cells
                have hrf : ∀ W o, Below w14.heap.size w14 W → Rd (W.alloc o) 6 (.slice la ln ln) ln (bCells m0) := fun W o hW => by
                  have e := (HM0.out.2.1.below (hbc.trans ((hW.alloc hW.size o).mono hbc.size))).here
                  rw [hml0] at e
                  exact Rd.full e
                have HRF := Lib.hid hrf
                have hcl : la = none → ln = 0 ∧ lc = 0 := fun e => by
                  subst e
                  rcases HM0.out.2.1.here.2 with ⟨h1, -⟩ | ⟨ad, cp, h1, -⟩
                  · simp only [Value.slice.injEq] at h1
                    exact ⟨h1.2.1, h1.2.2⟩
                  · simp at h1
                have HCL := Lib.hid hcl
                clear hrf hcl ap14 hbc
                obtain ⟨i0, hi, hz0, hz1, hz2⟩ := info_parts info_Batch6
                have hlm2 : ln ≤ 1000000000000 := by
                  have e := sgB_ge gl
                  rw [HG.out.2.2.2.2.2.2.1, HG.out.2.2.2.2.2.2.2.2] at e
                  omega
                have hlc2 : lc ≤ 9223372036854775807 := by
                  rcases HM0.out.2.1.here.2 with ⟨h1, -⟩ | ⟨ad, cp, h1, -, h3, -⟩
                  · simp only [Value.slice.injEq] at h1
                    omega
                  · simp only [Value.slice.injEq] at h1
                    rw [h1.2.2]
                    unfold maxLen at h3
                    omega
                have hsa : ∀ o, w14.heap.size ≤ (w14.drew.alloc o).heap.size := fun o => by simp only [World.size_alloc]; exact Nat.le_succ _
                have n1a : ∀ o, (w14.alloc o).cell? ⟨nb, 1, none⟩ = some (.slice la ln lc) := fun o => ((HA14.out.1.below (below_alloc w14 o)).cells).2.1.2.1
                go_upto_region 21 with fail
                go_cut [] from 92 to 98 (fun wd => Grew w14 wd w.heap.size bx nb (bn : Int) q1 q2 q3 q4 (.slice ra qr.length rc) qr (gn : Int) gy ln m0)
                case first =>
                  go_region_law
                    (first
                      | (go_simp; go_at_call 92; refine (ClipBatch_any la ln lc hlc HCL.out hlc2 _).mono ?_; rintro _ _ ⟨rfl, rfl⟩)
                      | (refine step_append_full2 _ (by rfl) _ _ _ (by rfl) 40 i0 _ 6 64 und_Batches6 hi hz0 hz1 hz2 rfl (.slice la ln ln) ln (bCells m0) (by rfl) ⟨_, rfl⟩ (HRF.out _ _ (by first | with_reducible exact (Below.refl _ _).drew | with_reducible exact Below.refl _ _)) ⟨w14.heap.size, 0, none⟩ 1 1 [.int .i64 (bn : Int), .int .i64 q1, .int .i64 q2, .int .i64 q3, .int .i64 q4, .slice ra qr.length rc] (by rfl) (by rfl) (World.news_of_block (cs := #[.int .i64 (bn : Int), .int .i64 q1, .int .i64 q2, .int .i64 q3, .int .i64 q4, .slice ra qr.length rc]) (t := 40) (fr := (0, 0)) (heap_alloc_new w14.drew _)) (by omega) (by omega) (by omega) ?_; rintro g16 cp16 w16 hg16 hown hbw; have hb16 : Below w14.heap.size w14 w16 := ((Below.refl _ w14).drew.alloc (Nat.le_refl _) _).trans (hbw.mono (hsa _)); have hge : w14.heap.size ≤ g16 := Nat.le_trans (hsa _) hg16; have hown2 := owns_mono (base' := w14.heap.size) hown (hsa _); have ap16 := HA14.out.1.below hb16; obtain ⟨-, ⟨-, e1, -⟩, -, e2, -⟩ := ap16.cells; have HX := Lib.hid (And.intro hb16 (And.intro hge hown2)); clear hb16 hge hown2 ap16 hown hbw hg16))
                  all_goals
                    go_wp2_with fail
                    go_meet
                    exact Grew.of HA14.out.1 HX.out.1 HX.out.2.1 HX.out.2.2
                case rest =>
                  obtain ⟨g, cp, hge, hown, hap15, hu15⟩ := hcut
                  obtain ⟨w15, hw15⟩ : ∃ w15, w15 = wc := ⟨_, rfl⟩
                  subst hw15
                  have hnw : w.heap.size ≤ nb := HA14.out.1.new.2
                  have hi15 := (HI6.out.below HA14.out.2).upd hu15 (fun k hk e => by have := H.out.st.lt k hk; omega)
                  obtain ⟨y0, y1, y2, yf, -⟩ := hi15.segk n hmn
                  have yf0 := yf (n * 3)
                  have yf1 := yf (n * 3 + 1)
                  have yf2 := yf (n * 3 + 2)
                  obtain ⟨-, ⟨n0, n1, n2⟩, z0, z1, z2⟩ := hap15.cells
                  obtain ⟨ty, hty⟩ : ∃ ty : Nat, gy + db.length = ty := ⟨_, rfl⟩
                  have htb : ty ≤ 140737488355328 := by omega
                  have hwr2 : wrap64 ((gy : Int) + (db.length : Int)) = (ty : Int) := ap_sum hty htb
                  have hwr : wrap64 ((gy : Int) + ((bs db).size : Int)) = (ty : Int) := by rw [bs_size]; exact hwr2
                  clear htb
                  have hgn : gb ≠ nb := fun e => by have := H.out.st.lt gb (HI6.out.ownG gb rfl); omega
                  have HGR := Lib.hid (And.intro hge (And.intro hown (And.intro hap15 (And.intro hu15 (And.intro hi15 hty)))))
                  obtain ⟨wE, hwE⟩ : ∃ wE, wE = ((((w15.setCell ⟨nb, 2, none⟩ (.int .i64 (ty : Int))).setCell ⟨gb, n * 3, none⟩ (.int .i64 (gn : Int))).setCell ⟨gb, n * 3 + 1, none⟩ (.slice (some ⟨g, 0, none⟩) (ln + 1) cp)).setCell ⟨gb, n * 3 + 2, none⟩ (.int .i64 (ty : Int))) := ⟨_, rfl⟩
                  have hfin : SdTo w0 w S sb b mb L R (.returned (.int .i64 0)) wE := by
                    rw [HRES.out]
                    clear hwr hwr2
                    have hsbl := H.out.st.lt sb H.out.st.own
                    have hgbl := H.out.st.lt gb (HI6.out.ownG gb rfl)
                    have hz1 := HT13.out.1.size
                    have hz2 := HT13.out.2.1.size
                    have hz3 := HT13.out.2.2.2.2.size
                    have hz4 := HA14.out.2.size
                    have hz5 := hu15.size
                    have hset := upd_set1 w15 nb 2 (.int .i64 (ty : Int))
                    have hz6 := hset.size
                    obtain ⟨w16, hw16⟩ : ∃ w16, w16 = w15.setCell ⟨nb, 2, none⟩ (.int .i64 (ty : Int)) := ⟨_, rfl⟩
                    rw [← hw16] at hset hwE hz6
                    have hap16 := hap15.setBytes (ty : Int)
                    rw [← hw16] at hap16
                    have hi16 := hi15.upd hset (fun k hk e => by have := H.out.st.lt k hk; omega)
                    have hDn : ∀ k, D k → k < w.heap.size := fun k hk => H.out.st.lt k (HI6.out.apart k hk).1
                    have hbl : BsIn w16 (fun c => D c ∨ (Value.slice (some ⟨g, 0, none⟩) (ln + 1) cp).ownBlock = some c ∨ (Value.slice ra qr.length rc).ownBlock = some c) (.slice (some ⟨g, 0, none⟩) (ln + 1) cp) (gl ++ [⟨(bn : Int), q1, q2, q3, q4, qr⟩]) := by
                      refine BsIn.more (m := m0) HM0.out.1 (fun x hx => (((HM0.out.2.2 x hx).below HA14.out.2).upd hu15 (fun k hk _ e => by have := hDn k hk; omega)).upd hset (fun k hk _ e => by have := hDn k hk; omega)) (N := w14.heap.size) ?_ (owns_inS hap16.recs (fun _ hg => hg))
                      rw [hml0]
                      exact owns_upd hown hset (fun k hk e => by
                        have h1 := HA14.out.1.lt.2
                        simp only [Value.ownBlock, Option.some.injEq] at hk
                        omega)
                    have hglt := (owns_lt hown g rfl).2
                    have hs := hi16.setSeg n hmn (b0 := (gn : Int)) hbl (fun c hc => by
                      rcases hc with hc | hc | hc
                      · have h1 := HI6.out.apart c hc
                        have h2 := hDn c hc
                        refine ⟨by omega, h1.2.1, fun e => h1.2.2 (by rw [e]; rfl)⟩
                      · simp only [Value.ownBlock, Option.some.injEq] at hc
                        refine ⟨by omega, by omega, by omega⟩
                      · have h1 := HLT.out.2 c hc
                        refine ⟨by omega, by omega, by omega⟩)
                    have hlen : (sgB (gl ++ [(⟨(bn : Int), q1, q2, q3, q4, qr⟩ : Batch)])).length = ty := by
                      rw [sgB_snoc, List.length_append, HG.out.2.2.2.2.2.2.1, ← HDB.out]; exact hty
                    rw [hlen, ← hwE] at hs
                    refine ap_fin H.out (Upd.of_below HT13.out.1) (fun _ h => .inl h) (fun _ h => .inl h) (H.out.below HT13.out.1) (Below.refl _ _) HT13.out.2.1 HT13.out.2.2.1 HT13.out.2.2.2.1 HNK.out HT13.out.2.2.2.2 (nb := nb) ⟨hnw, HLT.out.1, fun h => by have := H.out.tp.fLt nb h; omega⟩ (((Upd.of_below HA14.out.2).trans hu15).trans hset) (hs.2.mono (fun c _ e => by rw [e]; exact HI6.out.ownG gb rfl)) ⟨_, _, _, hs.1⟩ (StOk.last (g := ⟨(gn : Int), gl⟩) (bt := ⟨(bn : Int), q1, q2, q3, q4, qr⟩) H.out.ok hn HG.out.2.2.2.2.2.1 HBE.out.2.1 (by rw [HBE.out.2.2.1]; exact HBE.out.2.2.2)) (fun k hk => ?_)
                    rcases hk with hk | hk | hk | hk
                    · exact .inl hk
                    · exact .inl (HI6.out.apart k hk).1
                    · simp only [Value.ownBlock, Option.some.injEq] at hk
                      exact .inr (.inr (by omega))
                    · have h1 := HLT.out.2 k hk
                      exact .inr (.inl ⟨h1.1, h1.2, fun h => by have := H.out.tp.fLt k h; omega⟩)
                  have HFIN := Lib.hid hfin
                  have HWE := Lib.hid hwE
                  clear hge hown hap15 hu15 hi15 hty yf HRF HCL hfin hwE HA14 HA13 HT13 HLT HI6 HM0 HGR hml0 hi hz0 hz1 hz2 n1a hsa
                  go_wp2
                  rw [← HWE.out]
                  go_ret
                  exact HFIN.out
            · have hc1 : (c != 0) = true := by simpa using hc0
              have hfin : SdTo w0 w S sb b mb L R (.returned (.int .i64 c)) w13 := by rw [HR3.out, if_neg hc0]; exact hact
              have HFIN := Lib.hid hfin
              clear hact hfin hi5 hu5 ht4 hu4 hn4 h03 hk3 hk4 hk5 ap11 ap12 ap13 k0 k1 hi4 hb11 hb1011 hc0
              go_wp2
              go_ret
              exact HFIN.out
          · go_quiet (fail)
            obtain ⟨w8, hw8⟩ : ∃ w8, w8 = w7.drewN nq := ⟨_, rfl⟩
            have hb78 : Below w7.heap.size w7 w8 := by rw [hw8]; exact below_drewN (Below.refl _ _) _
            rw [← hw8]
            clear hw8
            have HA8 := Lib.hid (And.intro (HAP.out.1.below hb78) (HAP.out.2.trans (hb78.mono HAP.out.2.size)))
            have hRf : R = fullS t x ⟨(bn : Int), q1, q2, q3, q4, qr⟩ := by
              rw [← HR.out, appS, if_neg (by rw [HBE.out.1]; decide), if_neg (by rw [HBE.out.2.1]; decide), if_neg (by rw [HBE.out.2.2.1]; exact fun h => h HBE.out.2.2.2), HG.out.2.2.1]
              simp only
              rw [if_neg (by rw [HG.out.2.2.2.2.2.2.1, HG.out.2.2.2.2.2.2.2.1]; exact hfit)]
            clear hb78 s0 s1 s2 sf hsz2 HAP

            have hsy := fun (W : World) (hW : Below w.heap.size w W) => StSync_in hE (H.out.below hW) (HIN.out.below hW)
            have hsg5 := syncS_segs t x
            obtain ⟨rs, hrs⟩ : ∃ r, syncS t x = r := ⟨_, rfl⟩
            rw [fullS, hrs] at hRf
            rw [hrs] at hsy hsg5
            obtain ⟨t5, x5, c5⟩ := rs
            simp only at hRf hsg5
            have HSY := Lib.hid hsy
            have HRF5 := Lib.hid hRf
            have HS5 := Lib.hid hsg5
            clear hsy hsg5 hRf hrs
            go_wp2_with fail
            refine (HSY.out _ HA8.out.2).mono ?_
            rintro _ w9 ⟨L5, rfl, hd5, hi5, hu5, hL5⟩
            simp only at hd5 hi5
            have ap9 := HA8.out.1.upd hu5 (fun k hk => .inl (H.out.lt k hk))
            have HU5 := Lib.hid (And.intro hu5 hL5)
            have H5 := Lib.hid hd5
            have HI5 := Lib.hid hi5
            have HA9 := Lib.hid ap9
            obtain ⟨⟨x0, x1, x2, x3, x4, x5c⟩, -⟩ := ap9.cells
            clear hd5 hi5 ap9 hu5 hL5 HSY
            by_cases hc5 : c5 = 0
            case neg =>
              have hc51 : (c5 != 0) = true := by simpa using hc5
              have hfin : SdTo w0 w S sb b mb L R (.returned (.int .i64 c5)) w9 := by
                rw [HRF5.out, if_pos hc5]
                exact SdTo.since (Upd.of_below HA8.out.2) (fun _ h => .inl h) (fun _ h => .inl h) ⟨S, L5, rfl, H5.out, HU5.out.1, fun _ h => .inl h, HU5.out.2⟩
              have HFIN := Lib.hid hfin
              clear hfin hc5 x0 x1 x2 x3 x4 x5c
              go_wp2
              go_ret
              exact HFIN.out
            case pos =>
              subst hc5
              go_upto_region 16 with fail
              have hfr := Stframed_any HA9.out.one (fun b hb => by simp only [List.mem_singleton] at hb; rw [hb]; exact HBE.out.2.1) (by simp) ((H5.out.env hE).below (below_alloc _ _))
              obtain ⟨db, hdb⟩ : ∃ db, sgB [(⟨(bn : Int), q1, q2, q3, q4, qr⟩ : Batch)] = db := ⟨_, rfl⟩
              have hdb2 : db = frameB (encB ⟨(bn : Int), q1, q2, q3, q4, qr⟩) := by rw [← hdb]; simp [sgB]
              rw [hdb] at hfr
              rw [← hdb2] at g5
              have HFR := Lib.hid hfr
              have HDB := Lib.hid (And.intro hdb2 hdb)
              clear hdb hdb2
              clear hfr
              go_wp2_with fail
              refine HFR.out.mono ?_
              rintro _ w10 ⟨rfl, hb10⟩
              have hb910 : Below w9.heap.size w9 w10 := below_trans (below_alloc _ _) hb10
              have hap10 := HA9.out.below hb910
              have HA := Lib.hid (And.intro hap10 hb910)
              clear hb10 hb910 hap10 x0 x1 x2 x3 x4 x5c HFR
              have hf := fun W (hW : Below w9.heap.size w9 W) => Stfile_any (n := bn) ((H5.out.below hW).env hE) (H5.out.below hW).st H5.out.ok (by omega)
              obtain ⟨fnm, hfm⟩ : ∃ fnm, fileN x5.pre bn = fnm := ⟨_, rfl⟩
              rw [hfm] at hf
              have hts := fun W (hW : Below w9.heap.size w9 W) => TAppend_any (H5.out.tp.below hW) fnm db (by omega)
              obtain ⟨c, hc⟩ : ∃ c, (appT t5 fnm db).2 = c := ⟨_, rfl⟩
              have hnk := appT_names H5.out.names fnm db
              obtain ⟨t', ht'⟩ : ∃ t', (appT t5 fnm db).1 = t' := ⟨_, rfl⟩
              rw [hc, ht'] at hts
              rw [ht'] at hnk
              have hfs : fileS x (bn : Int) = fnm := by rw [fileS, ← hfm, HS5.out.2.1]; rfl
              have hR3 : R = (t', (if c = 0 then { stDid x5 0 with segs := x.segs ++ [⟨(bn : Int), [⟨(bn : Int), q1, q2, q3, q4, qr⟩]⟩] } else stDid x5 c), c) := by rw [HRF5.out, if_neg (by simp), hfs, ← HDB.out.1, hc, ht']
              have hdc := fun W (hW : StIn W S sb b x5 (.slice (some ⟨gb, 0, none⟩) x.segs.length gc) m D) => Stdid_in hW c
              have HF := Lib.hid hf
              have HTS := Lib.hid hts
              have HDC := Lib.hid hdc
              have HNK := Lib.hid hnk
              have HR3 := Lib.hid hR3
              clear hf hts hdc hnk hfs hR3 hfm hc ht'
              have hK : ∀ W, Below w10.heap.size w10 W → W.cell? ⟨sb, 0, none⟩ = some (.pointer (some ⟨b, 0, none⟩)) ∧ W.cell? ⟨nb, 0, none⟩ = some (.int .i64 (bn : Int)) := fun W hW =>
                ⟨(HI5.out.below (HA.out.2.trans (hW.mono HA.out.2.size))).cells.1, (HA.out.1.below hW).cells.2.1.1⟩
              obtain ⟨k0, k1⟩ := hK w10 (Below.refl _ _)
              have hfS : ∀ k, SdF S b mb L5 k → k < w9.heap.size := H5.out.lt
              have hsS := H5.out.st.own
              have hnb9 : w.heap.size ≤ nb ∧ ¬ TpF b mb L5 nb ∧ (∀ c, (Value.slice ra qr.length rc).ownBlock = some c → w.heap.size ≤ c ∧ ¬ TpF b mb L5 c) := by
                have h1 := HA8.out.1.lt.2
                have h2 := HA8.out.1.new.2
                refine ⟨h2, fun h => ?_, fun c hc => ?_⟩
                · rcases TpF.new HU5.out.2 nb h with h | h
                  · have := H.out.tp.fLt nb h; omega
                  · omega
                · have h3 := owns_lt HA8.out.1.recs c hc
                  refine ⟨h3.1, fun h => ?_⟩
                  rcases TpF.new HU5.out.2 c h with h | h
                  · have := H.out.tp.fLt c h; omega
                  · omega
              have hfN : ∀ k, TpF b mb L5 k → k < w.heap.size ∨ w8.heap.size ≤ k := fun k hk => (TpF.new HU5.out.2 k hk).elim (fun h => .inl (H.out.tp.fLt k h)) .inr
              have HNB := Lib.hid hnb9
              have hap : ∀ W W', ApB W w.heap.size bx nb (bn : Int) q1 q2 q3 q4 (.slice ra qr.length rc) qr (bn : Int) (.slice none 0 0) 0 → Upd (TpF b mb L5) W W' → ApB W' w.heap.size bx nb (bn : Int) q1 q2 q3 q4 (.slice ra qr.length rc) qr (bn : Int) (.slice none 0 0) 0 := fun W W' hA hu => by
                have e1 : bx < w8.heap.size := HA8.out.1.lt.1
                have e2 := hA.new.1
                refine ⟨(hu.block bx hA.lt.1 (fun h => ?_)).trans hA.bat, (hu.block nb hA.lt.2 (fun h => HNB.out.2.1 h)).trans hA.seg, owns_upd hA.recs hu (fun c hc h => (HNB.out.2.2 c hc).2 h), hA.new⟩
                rcases hfN bx h with h | h <;> omega
              have HAPU := Lib.hid hap
              have HFS := Lib.hid hfS
              have HSS := Lib.hid hsS
              have HK := Lib.hid hK
              clear hK hfS hsS hap hnb9 hfN
              go_upto_region 17 with fail
              go_region_held3 (fun W' => W'.cell? ⟨sb, 0, none⟩ = some (.pointer (some ⟨b, 0, none⟩)) ∧ W'.cell? ⟨nb, 0, none⟩ = some (.int .i64 (bn : Int)))
                (first | with_reducible exact ⟨k0, k1⟩ | with_reducible exact HK.out _ (Below.refl _ _).drew | (have hg := hk5; with_reducible exact hk5) | (have hg := hk4; with_reducible exact hk4) | (have hg := hk3; with_reducible exact hk3))
                (first
                  | (go_at_call 91; refine (HF.out _ ?_).mono ?_; (first | with_reducible exact HA.out.2 | with_reducible exact HA.out.2.trans ((Below.refl _ _).drew.mono HA.out.2.size)); rintro _ w11 ⟨rfl, hb11⟩; have hb1011 : Below w10.heap.size w10 w11 := (Below.refl _ w10).drew.trans (hb11.mono (Nat.le_refl _)); have hk3 := HK.out w11 hb1011; have h03 := HA.out.2.trans (hb1011.mono HA.out.2.size); have ap11 := HA.out.1.below hb1011)
                  | (go_at_call 44; have hg := h03; refine (HTS.out _ h03).mono ?_; rintro _ w12 ⟨rfl, L4, ht4, hu4, hn4⟩; have hi4 := Sd.tapeIn (HI5.out.below h03) H5.out.apart hu4; have ap12 := HAPU.out _ _ ap11 hu4; have hk4 := And.intro hi4.cells.1 ap12.cells.2.1.1)
                  | (go_at_call 90; have hg := hi4; refine (HDC.out _ hi4).mono ?_; rintro _ w13 ⟨rfl, hi5, hu5⟩; have ap13 := ap12.upd hu5 (fun k hk => .inl (by rw [hk]; exact H.out.st.lt sb HSS.out)); have hk5 := And.intro hi5.cells.1 ap13.cells.2.1.1))
              have hact := SdTo.since (L := L) (S := S) (w := w) ((Upd.of_below HA8.out.2).trans HU5.out.1) (fun _ h => .inl h) (fun k hk => (HU5.out.2 k hk).imp id (fun h => Nat.le_trans HA8.out.2.size h)) (SdTo.acted H5.out h03 ht4 hu4 hn4 HNK.out ⟨_, _, _, hi5⟩ hu5)
              by_cases hc0 : c = 0
              · subst hc0
                have hres : R = (t', { x5 with segs := x5.segs ++ [⟨(bn : Int), [⟨(bn : Int), q1, q2, q3, q4, qr⟩]⟩] }, 0) := by rw [HR3.out, if_pos rfl, stDid_zero, HS5.out.1]
                have hi6 : StIn w13 S sb b x5 (.slice (some ⟨gb, 0, none⟩) x.segs.length gc) m D := by have e := hi5; simpa using e
                have hlenm : m.length = x.segs.length := by rw [hi6.len, HS5.out.1]
                obtain ⟨-, ⟨n0, n1, n2⟩, -⟩ := ap13.cells
                obtain ⟨s0, -⟩ := hi6.segk n hmn
                rw [HG.out.2.2.2.1, HG.out.2.2.2.2.2.1] at s0
                simp only at s0
                have hne : ¬ (gn : Int) = (bn : Int) := fun e => by
                  have h1 : gl ≠ [] := fun h2 => by
                    have h3 := HG.out.2.2.2.2.2.2.1
                    rw [h2] at h3
                    simp [sgB] at h3
                    omega
                  have h2 := endL_gt HG.out.2.1.2.2 h1
                  have h3 := HBE.out.2.2.1
                  rw [endS_last _ n hn, HG.out.2.2.2.2.2.1] at h3
                  have h4 := HBE.out.2.2.2
                  simp only at h3
                  omega
                have hne2 : ((gn : Int) == (bn : Int)) = false := by simpa using hne
                have HRES := Lib.hid hres
                have HI6 := Lib.hid hi6
                have HA13 := Lib.hid ap13
                have HT13 := Lib.hid (And.intro h03 (And.intro hu4 (And.intro hn4 (And.intro ht4 hu5))))
                have HLT := Lib.hid (And.intro ap11.lt.2 (owns_lt ap11.recs))
                have HLM := Lib.hid hlenm
                clear hres hi6 ap13 hlenm hact HR3 hi5 hu5 ht4 hu4 hn4 h03 hk3 hk4 hk5 ap11 ap12 k0 k1 hi4 hb11 hb1011 HA HF HTS HDC HK
                go_upto_region 20 with fail
                go_cut [11] from 75 to 91 (fun v11 wc => v11 = .bool false ∧ Below w13.heap.size w13 wc)
                case first =>
                  go_quiet (fail)
                  go_wp2
                  go_meet
                  exact ⟨rfl, below_drewN (Below.refl _ _) _⟩
                case rest =>
                  obtain ⟨rfl, hbc⟩ := hcut
                  obtain ⟨w14, hw14⟩ : ∃ w14, w14 = wc := ⟨_, rfl⟩
                  subst hw14
                  clear s0 hne hne2
                  have ap14 := HA13.out.below hbc
                  have HA14 := Lib.hid (And.intro ap14 hbc)
                  obtain ⟨⟨x0, x1, x2, x3, x4, x5c⟩, ⟨n0, n1, n2⟩, -⟩ := ap14.cells
                  have hrf : ∀ W o, Below w14.heap.size w14 W → Rd (W.alloc o) 6 (.slice none 0 0) 0 (bCells []) := fun W o hW => ⟨rfl, .inl ⟨rfl, rfl⟩⟩
                  have HRF := Lib.hid hrf
                  clear hrf ap14 hbc
                  obtain ⟨i0, hi, hz0, hz1, hz2⟩ := info_parts info_Batch6
                  have hsa : ∀ o, w14.heap.size ≤ (w14.drew.alloc o).heap.size := fun o => by simp only [World.size_alloc]; exact Nat.le_succ _
                  have n1a : ∀ o, (w14.alloc o).cell? ⟨nb, 1, none⟩ = some (.slice none 0 0) := fun o => ((HA14.out.1.below (below_alloc w14 o)).cells).2.1.2.1
                  go_upto_region 21 with fail
                  go_cut [] from 92 to 98 (fun wd => Grew w14 wd w.heap.size bx nb (bn : Int) q1 q2 q3 q4 (.slice ra qr.length rc) qr (bn : Int) 0 0 [])
                  case first =>
                    go_region_law
                      (first
                        | (go_simp; go_at_call 92; refine (ClipBatch_any none 0 0 (Nat.le_refl _) (fun _ => ⟨rfl, rfl⟩) (by decide) _).mono ?_; rintro _ _ ⟨rfl, rfl⟩)
                        | (refine step_append_full2 _ (by rfl) _ _ _ (by rfl) 40 i0 _ 6 64 und_Batches6 hi hz0 hz1 hz2 rfl (.slice none 0 0) 0 (bCells []) (by rfl) ⟨_, rfl⟩ (HRF.out _ _ (by first | with_reducible exact (Below.refl _ _).drew | with_reducible exact Below.refl _ _)) ⟨w14.heap.size, 0, none⟩ 1 1 [.int .i64 (bn : Int), .int .i64 q1, .int .i64 q2, .int .i64 q3, .int .i64 q4, .slice ra qr.length rc] (by rfl) (by rfl) (World.news_of_block (cs := #[.int .i64 (bn : Int), .int .i64 q1, .int .i64 q2, .int .i64 q3, .int .i64 q4, .slice ra qr.length rc]) (t := 40) (fr := (0, 0)) (heap_alloc_new w14.drew _)) (by omega) (by omega) (by omega) ?_; rintro g16 cp16 w16 hg16 hown hbw; have hb16 : Below w14.heap.size w14 w16 := ((Below.refl _ w14).drew.alloc (Nat.le_refl _) _).trans (hbw.mono (hsa _)); have hge : w14.heap.size ≤ g16 := Nat.le_trans (hsa _) hg16; have hown2 := owns_mono (base' := w14.heap.size) hown (hsa _); have ap16 := HA14.out.1.below hb16; obtain ⟨-, ⟨-, e1, -⟩, -, e2, -⟩ := ap16.cells; have HX := Lib.hid (And.intro hb16 (And.intro hge hown2)); clear hb16 hge hown2 ap16 hown hbw hg16))
                    all_goals
                      go_wp2_with fail
                      go_meet
                      exact Grew.of HA14.out.1 HX.out.1 HX.out.2.1 HX.out.2.2
                  case rest =>
                    obtain ⟨g, cp, hge, hown, hap15, hu15⟩ := hcut
                    obtain ⟨w15, hw15⟩ : ∃ w15, w15 = wc := ⟨_, rfl⟩
                    subst hw15
                    clear hi hz0 hz1 hz2
                    rw [Nat.zero_add] at hown hap15
                    have hnw : w.heap.size ≤ nb := HA14.out.1.new.2
                    have hi15 := (HI6.out.below HA14.out.2).upd hu15 (fun k hk e => by have := H.out.st.lt k hk; omega)
                    obtain ⟨-, ⟨n0, n1, n2⟩, z0, z1, z2⟩ := hap15.cells
                    obtain ⟨ty, hty⟩ : ∃ ty : Nat, db.length = ty := ⟨_, rfl⟩
                    have htb : ty ≤ 140737488355328 := by omega
                    have hwr3 : wrap64 (db.length : Int) = (ty : Int) := ap_one hty htb
                    have hwr3 : wrap64 (db.length : Int) = (ty : Int) := ap_one hty htb
                    have hwr3 : wrap64 (db.length : Int) = (ty : Int) := ap_one hty htb
                    have hwr1 : wrap64 (0 + (db.length : Int)) = (ty : Int) := by rw [Int.zero_add]; exact hwr3
                    have hwr2 : wrap64 (0 + ((bs db).size : Int)) = (ty : Int) := by rw [bs_size]; exact hwr1
                    have hwr4 : wrap64 ((bs db).size : Int) = (ty : Int) := by rw [bs_size]; exact hwr3
                    have HTY := Lib.hid hty
                    clear hty htb
                    go_upto_region 25 with fail
                    obtain ⟨w16, hw16⟩ : ∃ w16, w16 = w15.setCell ⟨nb, 2, none⟩ (.int .i64 (ty : Int)) := ⟨_, rfl⟩
                    rw [← hw16]
                    have hset := upd_set1 w15 nb 2 (.int .i64 (ty : Int))
                    rw [← hw16] at hset
                    have hap16 := hap15.setBytes (ty : Int)
                    rw [← hw16] at hap16
                    have hi16 := hi15.upd hset (fun k hk e => by have := H.out.st.lt k hk; omega)
                    obtain ⟨-, ⟨n0, n1, n2⟩, -⟩ := hap16.cells
                    have hDn : ∀ k, D k → k < w.heap.size := fun k hk => H.out.st.lt k (HI6.out.apart k hk).1
                    have hsbl := H.out.st.lt sb H.out.st.own
                    have hz1 := HT13.out.1.size
                    have hz2 := HT13.out.2.1.size
                    have hz3 := HT13.out.2.2.2.2.size
                    have hz4 := HA14.out.2.size
                    have hz5 := hu15.size
                    have hz6 := hset.size
                    have hz7 := HU5.out.1.size
                    have hz8 := HA8.out.2.size
                    have hglt := (owns_lt hown g rfl).2
                    have hgnb := HA14.out.1.lt.2
                    have hgvl : ∀ k, ((.slice (some ⟨gb, 0, none⟩) x.segs.length gc) : Value).ownBlock = some k → k < w.heap.size := fun k hk => H.out.st.lt k (HI6.out.ownG k hk)
                    have hbl : BsIn w16 (fun c => False ∨ (Value.slice (some ⟨g, 0, none⟩) 1 cp).ownBlock = some c ∨ (Value.slice ra qr.length rc).ownBlock = some c) (.slice (some ⟨g, 0, none⟩) 1 cp) ([] ++ [⟨(bn : Int), q1, q2, q3, q4, qr⟩]) := by
                      refine BsIn.more (m := []) rfl (fun x hx => by cases hx) (N := w14.heap.size) ?_ (owns_inS hap16.recs (fun _ hg => hg))
                      exact owns_upd hown hset (fun k hk e => by
                        simp only [Value.ownBlock, Option.some.injEq] at hk
                        omega)
                    rw [List.nil_append] at hbl
                    have hlen : (sgB [(⟨(bn : Int), q1, q2, q3, q4, qr⟩ : Batch)]).length = ty := by rw [HDB.out.2]; exact HTY.out
                    have hi17 : StIn w16.drew S sb b x5 (.slice (some ⟨gb, 0, none⟩) x.segs.length gc) m D := hi16.below (Below.refl _ _).drew
                    have hbl17 : BsIn w16.drew (fun c => False ∨ (Value.slice (some ⟨g, 0, none⟩) 1 cp).ownBlock = some c ∨ (Value.slice ra qr.length rc).ownBlock = some c) (.slice (some ⟨g, 0, none⟩) 1 cp) [⟨(bn : Int), q1, q2, q3, q4, qr⟩] := hbl.below (Below.refl _ _).drew
                    have hd1 : ∀ c, (False ∨ (Value.slice (some ⟨g, 0, none⟩) 1 cp).ownBlock = some c ∨ (Value.slice ra qr.length rc).ownBlock = some c) → c < w16.drew.heap.size ∧ c ≠ sb ∧ ((.slice (some ⟨gb, 0, none⟩) x.segs.length gc) : Value).ownBlock ≠ some c := by
                      have hzd : w16.drew.heap.size = w16.heap.size := rfl
                      rw [hzd]
                      rintro c (hc | hc | hc)
                      · exact hc.elim
                      · simp only [Value.ownBlock, Option.some.injEq] at hc
                        exact ⟨by omega, by omega, fun e => by have := hgvl c e; omega⟩
                      · have h1 := HLT.out.2 c hc
                        exact ⟨by omega, by omega, fun e => by have := hgvl c e; omega⟩
                    have hpu : ∀ (g9 cp9 : Nat) (W2 : World) (ob : Obj), W2.ownsRow 0 158 3 (.slice (some ⟨g9, 0, none⟩) (x.segs.length + 1) cp9) (x.segs.length + 1) (sgCells m ++ [.int .i64 (bn : Int), .slice (some ⟨g, 0, none⟩) 1 cp, .int .i64 (ty : Int)]) → (w16.drew.alloc ob).grownBy W2 ((.slice (some ⟨gb, 0, none⟩) x.segs.length gc) : Value).ownBlock → (((.slice (some ⟨gb, 0, none⟩) x.segs.length gc) : Value).ownBlock = some g9 ∨ g9 = (w16.drew.alloc ob).heap.size) →
                        W2.cell? ⟨sb, 3, none⟩ = some (.slice (some ⟨gb, 0, none⟩) x.segs.length gc) ∧ W2.frozen? ⟨sb, 3, none⟩ = false ∧ SdTo w0 w S sb b mb L R (.returned (.int .i64 0)) (W2.setCell ⟨sb, 3, none⟩ (.slice (some ⟨g9, 0, none⟩) (x.segs.length + 1) cp9)) := by
                      intro g9 cp9 W2 ob h1 h2 h3
                      rw [← HLM.out, ← hlen] at h1
                      obtain ⟨p1, p2, p3, p4⟩ := hi17.push h1 h2 h3 hbl17 hd1
                      rw [HLM.out] at p2 p3
                      refine ⟨cells_of (p1.trans hi17.blk) 3 _ rfl, frozen_of (p1.trans hi17.blk), ?_⟩
                      rw [HRES.out]
                      refine ap_fin H.out (((Upd.of_below HA8.out.2).trans HU5.out.1).trans (Upd.of_below HT13.out.1)) (fun _ h => .inl h) (fun k hk => (HU5.out.2 k hk).imp id (fun h => by omega)) (H5.out.below HT13.out.1) (Below.refl _ _) HT13.out.2.1 HT13.out.2.2.1 HT13.out.2.2.2.1 HNK.out HT13.out.2.2.2.2 (nb := nb) ⟨hnw, HLT.out.1, HNB.out.2.1⟩ ((((Upd.of_below HA14.out.2).trans hu15).trans hset).trans (Upd.of_below (Below.refl _ _).drew)) p3 ⟨_, _, _, p2⟩ (StOk.push H5.out.ok HBE.out.2.1) (fun k hk => ?_)
                      rcases hk with hk | (hk | hk | hk) | hk
                      · exact .inl hk
                      · exact hk.elim
                      · simp only [Value.ownBlock, Option.some.injEq] at hk
                        exact .inr (.inr (by omega))
                      · have h1 := HLT.out.2 k hk
                        exact .inr (.inl ⟨h1.1, h1.2, (HNB.out.2.2 k hk).2⟩)
                      · by_cases hlt : k < w16.heap.size
                        · exact .inl (by rw [hk]; exact p4 (by rw [← hk]; exact hlt))
                        · exact .inr (.inr (by omega))
                    have c3 := hi16.cells.2.2.2.1
                    have c3a : ∀ o, (w16.alloc o).cell? ⟨sb, 3, none⟩ = some (.slice (some ⟨gb, 0, none⟩) x.segs.length gc) := fun o => (hi16.below (below_alloc w16 o)).cells.2.2.2.1
                    have hrow : ∀ o, (w16.drew.alloc o).ownsRow 0 158 3 (.slice (some ⟨gb, 0, none⟩) x.segs.length gc) x.segs.length (sgCells m) := fun o => by
                      have e := hi17.row.alloc o
                      rw [HLM.out] at e
                      exact e
                    have HPU := Lib.hid hpu
                    have HROW := Lib.hid hrow
                    clear HG hn hge hown hap15 hu15 hi15 hset hap16 hi16 hbl hi17 hbl17 hd1 hpu hrow hw16 hlen hgvl hDn HA14 HA13 HT13 HLT HI6 HU5 H5 HI5 HA8 HA9 HRES HRF n1a hsa hwr1 hwr2 hwr3 hwr4 z0 z1 z2 hz1 hz2 hz3 hz4 hz5 hz6 hz7 hz8
                    obtain ⟨i1, hi, hy0, hy1, hy2⟩ := info_parts info_seg
                    go_region_law
                      (refine step_append_lies _ (by rfl) _ _ _ (by rfl) 0 158 i1 _ 3 40 und_segs hi hy0 hy1 hy2 rfl (by omega) (.slice (some ⟨gb, 0, none⟩) x.segs.length gc) x.segs.length (sgCells m) (by rfl) (HROW.out _) ⟨w16.heap.size, 0, none⟩ 1 1 [.int .i64 (bn : Int), .slice (some ⟨g, 0, none⟩) 1 cp, .int .i64 (ty : Int)] (by rfl) (by rfl) (World.news_of_block (cs := #[.int .i64 (bn : Int), .slice (some ⟨g, 0, none⟩) 1 cp, .int .i64 (ty : Int)]) (t := 158) (fr := (0, 0)) (heap_alloc_new w16.drew _)) (by simp [Value.oneCell']) (by omega) ?_ ?_ ?_ _ rfl ?_; (unfold maxLen; omega); omega; omega; rintro g9 gcap9 w17 hown9 hgrow9 hat9 hlt9; obtain ⟨e3, ef, hfin⟩ := HPU.out _ _ _ _ hown9 hgrow9 hat9; have HFIN := Lib.hid hfin; clear hfin hown9 hgrow9 hat9 hlt9)
                    all_goals
                      go_wp2
                      go_ret
                      exact HFIN.out
              · have hc1 : (c != 0) = true := by simpa using hc0
                have hfin : SdTo w0 w S sb b mb L R (.returned (.int .i64 c)) w13 := by rw [HR3.out, if_neg hc0]; exact hact
                have HFIN := Lib.hid hfin
                clear hact hfin hi5 hu5 ht4 hu4 hn4 h03 hk3 hk4 hk5 ap11 ap12 ap13 k0 k1 hi4 hb11 hb1011 hc0
                go_wp2
                go_ret
                exact HFIN.out
end Go.Proofs.YtcpaaleogmiamaaGreatDoor
