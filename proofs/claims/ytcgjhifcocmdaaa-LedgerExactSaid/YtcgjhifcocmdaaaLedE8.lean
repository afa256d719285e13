/- The walk of the reference's Add: a producer that does not stand in the table yet. -/
import Derived.Test.YtcgjhifcocmdaaaLedE7
namespace Go.Proofs.Ytcgjhifcocmdaaa
open Go.RowKit

structure Ins (W0 wr : World) (out : Value) (mm : List (Int × Value)) (T : List (Int × List Slot)) : Prop where
  own : wr.ownsRow W0.heap.size 59 2 out mm.length (seenCells mm)
  rel : MRel wr mm T
  below : Below W0.heap.size W0 wr

theorem Ins.snoc {W0 wr wq w7 : World} {out out' : Value} {mm : List (Int × Value)} {T : List (Int × List Slot)} (h : Ins W0 wr out mm T) (hb : Below wr.heap.size wr wq) {p : Int} {V : Value} {l : List Slot} (hV : SlotsAt wq V l) (o : Obj)
    (hgrow : (wq.alloc o).grownBy w7 out.ownBlock) (hown : w7.ownsRow W0.heap.size 59 2 out' (mm.length + 1) (seenCells mm ++ [.int .i64 p, V])) : Ins W0 w7 out' (mm ++ [(p, V)]) (T ++ [(p, l)]) := by
  have e : seenCells (mm ++ [(p, V)]) = seenCells mm ++ [.int .i64 p, V] := by simp [seenCells]
  have hu := (upd_alloc (fun k => some k = out.ownBlock) wq o).trans (upd_grown hgrow)
  have hup : Upd (fun k => some k = out.ownBlock) wr w7 := (Upd.of_below hb).trans hu
  have hF : ∀ w' : World, (∀ k, k < wr.heap.size → w'.heap[k]? = wr.heap[k]?) → ∀ k cur fz, w'.heap[k]? = some (.cells cur 32 fz) → ¬ some k = out.ownBlock := by
    intro w' hw k cur fz hb e
    rcases h.own.2 with ⟨rfl, _⟩ | ⟨g, cap, cur', rfl, _, hg, _⟩
    · cases e
    · simp only [Value.ownBlock, Option.some.injEq] at e
      subst e
      rw [hw k (Array.getElem?_eq_some_iff.1 hg).1, hg] at hb
      simp at hb
  refine ⟨by rw [e, List.length_append]; exact hown, (h.rel.keptT hup (hF wr (fun _ _ => rfl))).snoc (x := (p, V)) (y := (p, l)) rfl (Sl.keptT (show Sl wq 32 3 V l.length (rowCells l) from hV) hu (hF wq (fun k hk => hb.block k hk))), ?_⟩
  have hs := h.below.size
  have hs2 := hb.size
  exact ((h.below.trans (hb.mono hs)).alloc (by omega) _).grown hgrow (by simp only [World.size_alloc]; omega) (fun k e => (owns_lt h.own k e).1)

theorem Ins.drew {W0 wr : World} {out : Value} {mm : List (Int × Value)} {T : List (Int × List Slot)} (h : Ins W0 wr out mm T) (n : Nat) : Ins W0 (wr.drewN n) out mm T :=
  ⟨owns_upd h.own (upd_drewN (fun _ => False) _ n) (fun _ _ h => h), h.rel.keptT (upd_drewN (fun _ => False) _ n) (fun _ _ _ _ h => h), below_drewN h.below n⟩

theorem slot_block {w : World} {g : Nat} {a b c : Int} (h : w.heap[g]? = some (.cells #[.int .i64 a, .int .i64 b, .int .i64 c] 32)) : SlotsAt w (.slice (some ⟨g, 0, none⟩) 1 1) [⟨a, b, c⟩] :=
  ⟨rfl, .inr ⟨_, 0, 1, _, _, rfl, Nat.le_refl _, by unfold maxLen; omega, h, by simp, rfl⟩⟩

theorem insT_cons (x : Int × List Slot) (T : List (Int × List Slot)) (p : Int) (l : List Slot) : insT (x :: T) p l = if p < x.1 then (p, l) :: x :: T else x :: insT T p l := rfl

set_option maxRecDepth 100000 in
set_option maxHeartbeats 4000000 in
theorem R6Add_new {w : World} {v : Value} {T : List (Int × List Slot)} (h : SeensRd w v T) (hok : ∀ k (hk : k < T.length), RowOk T[k].2) (hT : T.length ≤ 100000) (b : Batch) (rv : Value)
    (hr : Rd w 4 rv b.recs.length (recCells b.recs)) (hg : goodB b = true) (hck : (checkS (rowOf T b.prod) b.prod b.seq).2 = 0) (hn : ∀ j (_ : j < T.length), T[j].1 ≠ b.prod) :
    Calls Try.prog 16 #[v, b.v rv] w (Added6 w T (addT T b)) := by
  obtain ⟨a, cap, rfl, -, -⟩ := h.cells
  have hrow : rowOf T b.prod = [] := rowOf_none hn
  have hokm : ∀ x ∈ T, RowOk x.2 := by
    intro x hx
    obtain ⟨j, hj, rfl⟩ := List.getElem_of_mem hx
    exact hok j hj
  have good : ∀ w1, Below w.heap.size w w1 → Calls Try.prog 25 #[b.v rv] w1 fun e w' => e = .returned (.bool true) ∧ Below w1.heap.size w1 w' :=
    fun w1 hb1 => by rw [← hg]; exact R3Good_any b rv w1 (hr.below hb1)
  have check := fun w1 (hb1 : Below w.heap.size w w1) => R6Check_agg (h.below hb1) hokm b.prod b.seq
  have copy := fun w1 (hb1 : Below w.heap.size w w1) => R6Copy_any (h.below hb1) hok hT
  have hat : ∀ w1 v1, SeensRd w1 v1 T → Calls Try.prog 26 #[v1, .int .i64 b.prod] w1 fun e w' => e = .returned (.int .i64 (-1)) ∧ w' = w1 :=
    fun w1 v1 h1 => at_no h1 b.prod hn
  have hres : addT T b = if 64 ≤ T.length then (T, 1) else (insT T b.prod [⟨b.seq, b.base, b.base + b.count⟩], 0) := by
    have hck' := hck
    rw [hrow] at hck'
    simp [addT, hg, hrow, hck']
  have hgb : 0 ≤ b.base ∧ 1 ≤ b.count ∧ b.count ≤ 8 ∧ b.base ≤ 1099511627776 - b.count := by
    simp only [goodB, isNumB, Bool.and_eq_true, decide_eq_true_eq] at hg
    omega
  rw [hck] at check
  have HRES := Lib.hid hres
  clear hres hck hr hg h hrow
  obtain ⟨base, count, prod, seq, time, recs⟩ := b
  unfold Batch.v at *
  dsimp only at *
  generalize (checkS (rowOf T prod) prod seq).1 = x at *
  obtain ⟨x0, x1, x2⟩ := x
  dsimp only at *
  have HG := Lib.hid good
  have HC := Lib.hid check
  have HP := Lib.hid copy
  have HA := Lib.hid hat
  have HO := Lib.hid hok
  clear good check copy hat hok hokm hn
  have hsum : wrap64 (base + count) = base + count := by rw [← IntWalk.i64_left]; exact IntWalk.i64_in _ (by omega)
  go_enter Try.func16, Try.ntmps16
  go_wp2_with (first
    | (go_at_call 25; refine (HG.out _ (below_alloc w _)).mono ?_; rintro e w1 ⟨rfl, hb1⟩; obtain ⟨hc1, hf1⟩ := bcell hb1; have hs1 := hb1.size; simp only [World.size_alloc] at hs1)
    | (go_at_call 17; refine (HC.out _ (below_trans (below_alloc w _) hb1)).mono ?_; rintro e w2 ⟨rfl, hb2⟩; obtain ⟨hc2, hf2⟩ := bcell hb2; have hs2 := hb2.size))
  have hb02 : Below w.heap.size w w2 := below_trans (below_trans (below_alloc w _) hb1) hb2
  have hb2s : Below w.heap.size w (w2.alloc (.cells #[.int .i64 x0, .int .i64 x1, .int .i64 x2] 32)) := below_trans hb02 (below_alloc w2 _)
  refine (HP.out _ hb2s).mono ?_
  rintro e w3 ⟨vt, mm, rfl, hown, hb3⟩
  have hs3 := hb3.size
  simp only [World.size_alloc] at hs3
  have qq := fun o u (hq : (w.alloc (.cells #[.int .i64 base, .int .i64 count, .int .i64 prod, .int .i64 seq, .int .i64 time, rv] 39)).cell? ⟨w.heap.size, o, none⟩ = some u) => below_some hb3 (below_some (below_alloc w2 (.cells #[.int .i64 x0, .int .i64 x1, .int .i64 x2] 32)) (below_some hb2 (below_some hb1 hq (by simp)) (by omega)) (by omega)) (by simp; omega)
  have q0 := qq 0 (.int .i64 base) (by simp [go_sem])
  have q1 := qq 1 (.int .i64 count) (by simp [go_sem])
  have q2 := qq 2 (.int .i64 prod) (by simp [go_sem])
  have q3 := qq 3 (.int .i64 seq) (by simp [go_sem])
  have hb03 := below_trans hb2s hb3
  have hw3 : w.heap.size < w3.heap.size := by omega
  clear qq hc1 hf1 hc2 hf2 hb1 hb2 hb02
  have hlen := hown.len
  obtain ⟨ta, tcap, rfl, -⟩ := (Sl.of_owns hown.own).shape
  rw [hlen] at hown ⊢
  go_wp2_with fail
  refine (HA.out _ _ (SeensRd.below hown.seens.rd (below_alloc w3 (.cells #[.int .i64 seq, .int .i64 base, .int .i64 (base + count)] 32)))).mono ?_
  rintro e w4 ⟨rfl, rfl⟩
  by_cases h64 : 64 ≤ T.length
  · have hres := HRES.out
    rw [if_pos h64] at hres
    have HR2 := Lib.hid hres
    clear hres
    have i1 : (64 : Int) ≤ (T.length : Int) := by omega
    go_wp2
    rw [HR2.out]
    exact bodyPost_ret (v := .tuple #[.slice ta T.length tcap, .int .i64 1]) (by simp [results, Try.results16, go_sem]) rfl ⟨_, rfl, fun h0 => by simp at h0, below_trans hb03 (below_alloc w3 _)⟩
  · have hres := HRES.out
    rw [if_neg h64] at hres
    have HR2 := Lib.hid hres
    clear hres HRES
    have i1 : decide ((64 : Int) ≤ (T.length : Int)) = false := by rw [decide_eq_false_iff_not]; omega
    have hn64 : (T.length : Int) < 64 := by omega
    obtain ⟨W0, hW0⟩ : ∃ W, w3.alloc (.cells #[.int .i64 seq, .int .i64 base, .int .i64 (base + count)] 32) = W := ⟨_, rfl⟩
    have hs0 : w3.heap.size < W0.heap.size := by rw [← hW0]; simp
    have hb30 : Below w3.heap.size w3 W0 := by rw [← hW0]; exact below_alloc w3 _
    have y0 : W0.cell? ⟨w3.heap.size, 0, none⟩ = some (.int .i64 seq) := by rw [← hW0]; simp [go_sem]
    have y1 : W0.cell? ⟨w3.heap.size, 1, none⟩ = some (.int .i64 base) := by rw [← hW0]; simp [go_sem]
    have y2 : W0.cell? ⟨w3.heap.size, 2, none⟩ = some (.int .i64 (base + count)) := by rw [← hW0]; simp [go_sem]
    have y3 := below_some hb30 q2 hw3
    have hOT := hown.below hb30
    have hTC : ∀ k (hk : k < T.length), ∃ tb gb gcap, ta = some ⟨tb, 0, none⟩ ∧ tb < W0.heap.size ∧ W0.cell? ⟨tb, k * 2, none⟩ = some (.int .i64 T[k].1) ∧ W0.cell? ⟨tb, k * 2 + 1, none⟩ = some (.slice (some ⟨gb, 0, none⟩) T[k].2.length gcap) ∧
        SlotsAt W0 (.slice (some ⟨gb, 0, none⟩) T[k].2.length gcap) T[k].2 := by
      intro k hk
      have hmk : k < mm.length := by rw [hlen]; exact hk
      obtain ⟨tb, tcap', e, -, -, htb, -, htc⟩ := owns_some hOT.own (by omega)
      obtain ⟨gb, gcap, ge, -, -, -, -, -⟩ := owns_some (hOT.row k hmk hk).2 (List.length_pos_iff.2 (HO.out k hk).1)
      simp only [Value.slice.injEq] at e
      have h1 := htc (k * 2) _ (seenCells_get mm k hmk).1
      have h2 := htc (k * 2 + 1) _ (seenCells_get mm k hmk).2
      rw [(hOT.row k hmk hk).1] at h1
      rw [ge] at h2
      have h3 := Sl.of_owns (hOT.row k hmk hk).2
      rw [ge] at h3
      exact ⟨tb, gb, gcap, e.1, htb, h1, h2, h3⟩
    have HTC := Lib.hid hTC
    have HY := Lib.hid (And.intro y0 (And.intro y1 (And.intro y2 (And.intro y3 (And.intro hs0 (below_trans hb03 hb30))))))
    have hw30 := hs0
    clear y0 y1 y2 y3 hTC hOT hown hb30 q0 q1 q2 q3 hlen
    simp only [hW0]
    clear hW0
    obtain ⟨i0, hi, hz0, hz1, hz2⟩ := info_parts info_Seen
    go_wp2
    go_loopg [11, 12, 13] T.length (fun gk out dn iv wr => ∃ (k : Nat) (m' : List (Int × Value)) (T' : List (Int × List Slot)) (d : Bool), k ≤ T.length ∧ gk = T.length - k ∧ iv = .int .i64 k ∧ dn = .bool d ∧ m'.length ≤ k + d.toNat ∧ Ins W0 wr out m' T' ∧
      T' ++ (if d then T.drop k else insT (T.drop k) prod [⟨seq, base, base + count⟩]) = insT T prod [⟨seq, base, base + count⟩])
    case atStart =>
      refine ⟨0, [], [], false, Nat.zero_le _, rfl, rfl, rfl, by simp, ⟨World.ownsRow_made (e := 59) (size := 2) (base := W0.heap.size) W0 #[] 0 (Nat.le_refl _) (Nat.zero_le _) rfl, trivial, below_alloc W0 _⟩, rfl⟩
    case round =>
      obtain ⟨k, m', T', d, hk, rfl, rfl, rfl, hm', hins, hinv⟩ := hrel
      have HI := Lib.hid (And.intro hins hinv)
      clear hinv
      have hbel := hins.below
      have hsz := hbel.size
      have y0 := below_some hbel HY.out.1 HY.out.2.2.2.2.1
      have y1 := below_some hbel HY.out.2.1 HY.out.2.2.2.2.1
      have y2 := below_some hbel HY.out.2.2.1 HY.out.2.2.2.2.1
      have y3 := below_some hbel HY.out.2.2.2.1 (by omega)
      clear hins
      have hlw3 : w3.heap.size < wr.heap.size := by omega
      have hlw : w.heap.size < wr.heap.size := by omega
      by_cases hlt : k < T.length
      · obtain ⟨tb, gb, gcap, rfl, htb, c0, c1, hsl⟩ := HTC.out k hlt
        have d0 := c0
        have d1 := c1
        have c0 := below_some hbel c0 htb
        have c1 := below_some hbel c1 htb
        have hs0 : ∀ w', Below W0.heap.size W0 w' → SlotsAt w' (.slice (some ⟨gb, 0, none⟩) T[k].2.length gcap) T[k].2 ∧ w'.cell? ⟨tb, k * 2, none⟩ = some (.int .i64 T[k].1) ∧ w'.cell? ⟨tb, k * 2 + 1, none⟩ = some (.slice (some ⟨gb, 0, none⟩) T[k].2.length gcap) := by
          intro w' hbe
          exact ⟨Sl.below hsl hbe, below_some hbe d0 htb, below_some hbe d1 htb⟩
        have HS0 := Lib.hid hs0
        clear hs0 d0 d1
        have hslr : SlotsAt wr _ _ := Sl.below hsl hbel
        have htbw : tb < wr.heap.size := by omega
        have hdk : T.drop k = (T[k].1, T[k].2) :: T.drop (k + 1) := List.drop_eq_getElem_cons hlt
        have HS := Lib.hid (And.intro hslr hdk)
        clear hslr hdk hsl
        have i2 : (k : Int) < (T.length : Int) := by omega
        have i3 : (0 : Int) ≤ (k : Int) := by omega
        generalize T[k].1 = p at *
        generalize T[k].2 = l at *
        cases d
        case true =>
          have hm' : m'.length ≤ k + 1 := hm'
          go_wp2
          go_quiet (fail)
          generalize hW : World.drewN _ _ = wq
          have hbq : Below wr.heap.size wr wq := by rw [← hW]; exact below_drewN (Below.refl _ _) _
          have hiq := HI.out.1.drew nq
          rw [hW] at hiq
          have hslq : SlotsAt wq _ _ := Sl.below HS.out.1 hbq
          have hzq := hbq.size
          have c0 := below_some hbq c0 htbw
          have c1 := below_some hbq c1 htbw
          have y0 := below_some hbq y0 hlw3
          have y1 := below_some hbq y1 hlw3
          have y2 := below_some hbq y2 hlw3
          have y3 := below_some hbq y3 hlw
          have HQ := Lib.hid (And.intro hiq hslq)
          clear hW hbq hiq hslq
          go_wp2_with (at_builtin; refine wpList_append_lies _ rfl _ _ 43 rfl W0.heap.size 59 i0 _ 2 32 und_Seens hi hz0 hz1 hz2 rfl (by decide) (_) (m'.length) (seenCells m') rfl (HQ.out.1.own.alloc _) ⟨wq.heap.size, 0, none⟩ 1 1 [.int .i64 p, .slice (some ⟨gb, 0, none⟩) l.length gcap] rfl rfl (World.news_of_block (cs := #[.int .i64 p, .slice (some ⟨gb, 0, none⟩) l.length gcap]) (t := 59) (fr := (0, 0)) (heap_alloc_new wq _)) (by simp [Value.oneCell']) (by decide) ?_ ?_ ?_ _ rfl ?_; (unfold maxLen; omega); (omega); (simp only [World.size_alloc] at *; omega); intro g7 cap7 w7 hown7 hgrow7 hat7 hlt7)
          have hsn := HQ.out.1.snoc (Below.refl _ _) HQ.out.2 _ hgrow7 hown7
          have HF := Lib.hid hsn
          clear hsn hgrow7 hown7 hat7 hlt7
          go_roundg (T.length - (k + 1))
          case measure => omega
          case rel => exact ⟨k + 1, _, _, true, by omega, rfl, by go_num, rfl, by simp; omega, HF.out, by have := HI.out.2; rw [HS.out.2] at this; simpa using this⟩
        have hm' : m'.length ≤ k := hm'
        by_cases hpp : prod < p
        · have hd : decide (prod < p) = true := decide_eq_true hpp
          have HPP := Lib.hid hpp
          clear hpp
          go_wp2
          go_quiet (fail)
          generalize hW : World.drewN _ _ = wq
          have hbq : Below wr.heap.size wr wq := by rw [← hW]; exact below_drewN (Below.refl _ _) _
          have hiq := HI.out.1.drew nq
          rw [hW] at hiq
          have hslq : SlotsAt wq _ _ := Sl.below HS.out.1 hbq
          have hzq := hbq.size
          have c0 := below_some hbq c0 htbw
          have c1 := below_some hbq c1 htbw
          have y0 := below_some hbq y0 hlw3
          have y1 := below_some hbq y1 hlw3
          have y2 := below_some hbq y2 hlw3
          have y3 := below_some hbq y3 hlw
          have HQ := Lib.hid (And.intro hiq hslq)
          clear hW hbq hiq hslq
          go_wp2_with (first
            | (at_builtin; refine wpList_append_lies _ rfl _ _ 43 rfl W0.heap.size 59 i0 _ 2 32 und_Seens hi hz0 hz1 hz2 rfl (by decide) (_) (m'.length) (seenCells m') rfl ((HQ.out.1.own.alloc _).alloc _) ⟨wq.heap.size + 1, 0, none⟩ 1 1 [.int .i64 prod, .slice (some ⟨wq.heap.size, 0, none⟩) 1 1] rfl rfl (World.news_of_block (cs := #[.int .i64 prod, .slice (some ⟨wq.heap.size, 0, none⟩) 1 1]) (t := 59) (fr := (0, 0)) (heap_new1 wq _ _)) (by simp [Value.oneCell']) (by decide) ?_ ?_ ?_ _ rfl ?_; (unfold maxLen; omega); (omega); (simp only [World.size_alloc] at *; omega); intro g7 cap7 w7 hown7 hgrow7 hat7 hlt7; have hi7 := HQ.out.1.snoc (below_alloc wq _) (slot_block (heap_alloc_new wq _)) _ hgrow7 hown7; have hb7 : Below W0.heap.size W0 w7 := hi7.below; obtain ⟨-, c07, c17⟩ := HS0.out w7 hb7; have hz7 := hb7.size; have H7 := Lib.hid (And.intro hown7 hi7); clear hgrow7 hown7 hat7 hlt7 hi7)
            | (at_builtin; refine wpList_append_lies _ rfl _ _ 43 rfl W0.heap.size 59 i0 _ 2 32 und_Seens hi hz0 hz1 hz2 rfl (by decide) (_) (m'.length + 1) (seenCells m' ++ [.int .i64 prod, .slice (some ⟨wq.heap.size, 0, none⟩) 1 1]) rfl (H7.out.1.alloc _) ⟨w7.heap.size, 0, none⟩ 1 1 [.int .i64 p, .slice (some ⟨gb, 0, none⟩) l.length gcap] rfl rfl (World.news_of_block (cs := #[.int .i64 p, .slice (some ⟨gb, 0, none⟩) l.length gcap]) (t := 59) (fr := (0, 0)) (heap_alloc_new w7 _)) (by simp [Value.oneCell']) (by decide) ?_ ?_ ?_ _ rfl ?_; (unfold maxLen; omega); (omega); (simp only [World.size_alloc] at *; omega); intro g8 cap8 w8 hown8 hgrow8 hat8 hlt8))
          have hsn := H7.out.2.snoc (Below.refl _ _) (HS0.out w7 hb7).1 _ hgrow8 (by
            have e : seenCells (m' ++ [(prod, Value.slice (some ⟨wq.heap.size, 0, none⟩) 1 1)]) = seenCells m' ++ [.int .i64 prod, .slice (some ⟨wq.heap.size, 0, none⟩) 1 1] := by simp [seenCells]
            rw [e, List.length_append]
            exact hown8)
          have HF := Lib.hid hsn
          clear hsn hgrow8 hown8 hat8 hlt8
          go_roundg (T.length - (k + 1))
          case measure => omega
          case rel =>
            refine ⟨k + 1, _, _, true, by omega, rfl, by go_num, rfl, ?_, HF.out, ?_⟩
            · simp; omega
            · have := HI.out.2
              simp only [Bool.false_eq_true, if_false] at this
              rw [HS.out.2, insT_cons, if_pos HPP.out] at this
              simpa using this
        · have hd : decide (prod < p) = false := decide_eq_false hpp
          have HPP := Lib.hid hpp
          clear hpp
          go_wp2
          go_quiet (fail)
          generalize hW : World.drewN _ _ = wq
          have hbq : Below wr.heap.size wr wq := by rw [← hW]; exact below_drewN (Below.refl _ _) _
          have hiq := HI.out.1.drew nq
          rw [hW] at hiq
          have hslq : SlotsAt wq _ _ := Sl.below HS.out.1 hbq
          have hzq := hbq.size
          have c0 := below_some hbq c0 htbw
          have c1 := below_some hbq c1 htbw
          have y0 := below_some hbq y0 hlw3
          have y1 := below_some hbq y1 hlw3
          have y2 := below_some hbq y2 hlw3
          have y3 := below_some hbq y3 hlw
          have HQ := Lib.hid (And.intro hiq hslq)
          clear hW hbq hiq hslq
          go_wp2_with (at_builtin; refine wpList_append_lies _ rfl _ _ 43 rfl W0.heap.size 59 i0 _ 2 32 und_Seens hi hz0 hz1 hz2 rfl (by decide) (_) (m'.length) (seenCells m') rfl (HQ.out.1.own.alloc _) ⟨wq.heap.size, 0, none⟩ 1 1 [.int .i64 p, .slice (some ⟨gb, 0, none⟩) l.length gcap] rfl rfl (World.news_of_block (cs := #[.int .i64 p, .slice (some ⟨gb, 0, none⟩) l.length gcap]) (t := 59) (fr := (0, 0)) (heap_alloc_new wq _)) (by simp [Value.oneCell']) (by decide) ?_ ?_ ?_ _ rfl ?_; (unfold maxLen; omega); (omega); (simp only [World.size_alloc] at *; omega); intro g7 cap7 w7 hown7 hgrow7 hat7 hlt7)
          have hsn := HQ.out.1.snoc (Below.refl _ _) HQ.out.2 _ hgrow7 hown7
          have HF := Lib.hid hsn
          clear hsn hgrow7 hown7 hat7 hlt7
          go_roundg (T.length - (k + 1))
          case measure => omega
          case rel => exact ⟨k + 1, _, _, false, by omega, rfl, by go_num, rfl, by simp; omega, HF.out, by have := HI.out.2; simp only [Bool.false_eq_true, if_false] at this ⊢; rw [HS.out.2, insT_cons, if_neg (by have := HPP.out; show ¬ prod < p; omega)] at this; simpa using this⟩
      · have i2 : ¬ (k : Int) < (T.length : Int) := by omega
        have hdk : T.drop k = [] := List.drop_eq_nil_of_le (by omega)
        cases d
        case true =>
          have hfin : T' = insT T prod [⟨seq, base, base + count⟩] := by have := HI.out.2; rw [hdk] at this; simpa using this
          have HF := Lib.hid (And.intro hfin HI.out.1)
          clear hfin hdk
          obtain ⟨oa, ocap, rfl, -⟩ := (Sl.of_owns HI.out.1.own).shape
          have hlast : SeensRd wr (.slice oa m'.length ocap) (insT T prod [⟨seq, base, base + count⟩]) := by rw [← HF.out.1]; exact SeensAt.rd ⟨m', Sl.of_owns HF.out.2.own, HF.out.2.rel⟩
          have HL := Lib.hid hlast
          clear hlast
          go_wp2
          rw [HR2.out]
          exact bodyPost_ret (v := .tuple #[.slice oa m'.length ocap, .int .i64 0]) (by simp [results, Try.results16, go_sem]) rfl ⟨_, rfl, fun _ => HL.out, HY.out.2.2.2.2.2.trans (hbel.mono HY.out.2.2.2.2.2.size)⟩
        case false =>
          have hm' : m'.length ≤ k := hm'
          have hfin : T' ++ [(prod, [⟨seq, base, base + count⟩])] = insT T prod [⟨seq, base, base + count⟩] := by have := HI.out.2; rw [hdk] at this; simpa [insT] using this
          have hwr := Below.refl wr.heap.size wr
          have HFI := Lib.hid (And.intro hfin HI.out.1)
          clear hfin hdk
          go_wp2_with (at_builtin; refine wpList_append_lies _ rfl _ _ 43 rfl W0.heap.size 59 i0 _ 2 32 und_Seens hi hz0 hz1 hz2 rfl (by decide) (_) (m'.length) (seenCells m') rfl ((HI.out.1.own.alloc _).alloc _) ⟨wr.heap.size + 1, 0, none⟩ 1 1 [.int .i64 prod, .slice (some ⟨wr.heap.size, 0, none⟩) 1 1] rfl rfl (World.news_of_block (cs := #[.int .i64 prod, .slice (some ⟨wr.heap.size, 0, none⟩) 1 1]) (t := 59) (fr := (0, 0)) (heap_new1 wr _ _)) (by simp [Value.oneCell']) (by decide) ?_ ?_ ?_ _ rfl ?_; (unfold maxLen; omega); (omega); (simp only [World.size_alloc] at *; omega); intro g7 cap7 w7 hown7 hgrow7 hat7 hlt7; have hi7 := HI.out.1.snoc (below_alloc wr _) (slot_block (heap_alloc_new wr _)) _ hgrow7 hown7; have HF := Lib.hid hi7; clear hgrow7 hown7 hat7 hlt7 hi7)
          have hlast := HF.out
          have hbz := hlast.below
          have hsn : SeensRd w7 (.slice (some ⟨g7, 0, none⟩) (m'.length + 1) cap7) (insT T prod [⟨seq, base, base + count⟩]) := by
            rw [← HFI.out.1]; exact SeensAt.rd ⟨_, Sl.of_owns hlast.own, hlast.rel⟩
          rw [HR2.out]
          exact bodyPost_ret (v := .tuple #[.slice (some ⟨g7, 0, none⟩) (m'.length + 1) cap7, .int .i64 0]) (by simp [results, Try.results16, go_sem]) rfl ⟨_, rfl, fun _ => hsn, HY.out.2.2.2.2.2.trans (hbz.mono HY.out.2.2.2.2.2.size)⟩

theorem R6Add_any {w : World} {v : Value} {T : List (Int × List Slot)} (h : SeensRd w v T) (hok : ∀ k (hk : k < T.length), RowOk T[k].2) (hT : T.length ≤ 100000) (b : Batch) (rv : Value)
    (hr : Rd w 4 rv b.recs.length (recCells b.recs)) : Calls Try.prog 16 #[v, b.v rv] w (Added6 w T (addT T b)) := by
  have hokm : ∀ x ∈ T, RowOk x.2 := by
    intro x hx
    obtain ⟨j, hj, rfl⟩ := List.getElem_of_mem hx
    exact hok j hj
  by_cases hg : goodB b = true
  · by_cases hck : (checkS (rowOf T b.prod) b.prod b.seq).2 = 0
    · rcases where_in T b.prod with ⟨i, hi, hip, hn⟩ | hn
      · exact R6Add_yes h hok hT b rv hr hg hck i hi hip hn
      · exact R6Add_new h hok hT b rv hr hg hck hn
    · exact R6Add_no h hokm b rv hr (.inr hck)
  · exact R6Add_no h hokm b rv hr (.inl (by simpa using hg))
end Go.Proofs.Ytcgjhifcocmdaaa
