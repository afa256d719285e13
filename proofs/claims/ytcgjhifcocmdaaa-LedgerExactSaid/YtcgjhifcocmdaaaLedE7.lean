/- The walk of the reference's Add: a producer that stands in the table. -/
import Derived.Test.YtcgjhifcocmdaaaLedE6
namespace Go.Proofs.Ytcgjhifcocmdaaa
open Go.RowKit

theorem seenCells_set : ∀ (mm : List (Int × Value)) (i : Nat) (hi : i < mm.length) (V : Value), seenCells (mm.set i (mm[i].1, V)) = (seenCells mm).set (i * 2 + 1) V
  | x :: mm, 0, _, V => rfl
  | x :: mm, i + 1, hi, V => by
    have ih := seenCells_set mm i (by simpa using hi) V
    have e1 : seenCells (x :: mm) = .int .i64 x.1 :: x.2 :: seenCells mm := rfl
    have e2 : (i + 1) * 2 + 1 = (i * 2 + 1) + 1 + 1 := by omega
    rw [e1, e2]
    simp only [List.set_cons_succ, List.getElem_cons_succ]
    rw [← ih]
    rfl

theorem putL_at : ∀ {T : List (Int × List Slot)} {i : Nat} (hi : i < T.length) (_ : ∀ j (_ : j < T.length), j < i → T[j].1 ≠ T[i].1) (l : List Slot), putL T T[i].1 l = T.set i (T[i].1, l)
  | x :: T, 0, hi, _, l => by simp [putL]
  | x :: T, i + 1, hi, hn, l => by
    have h0 := hn 0 (by simp) (by omega)
    have h0' : (x.1 == ((x :: T)[i + 1]).1) = false := by simpa using h0
    have ih := putL_at (T := T) (i := i) (by simpa using hi) (fun j hj hji => hn (j + 1) (by simpa using hj) (by omega)) l
    simp only [List.getElem_cons_succ] at h0' ⊢
    simp only [putL, h0', List.set_cons_succ, ih]
    rfl

/-- The table behind a store of row i. -/
theorem OwnTable.put {w w6 : World} {N tb cap n : Nat} {mm : List (Int × Value)} {T : List (Int × List Slot)} (h : OwnTable w N (.slice (some ⟨tb, 0, none⟩) n cap) mm T) {i : Nat} (hi : i < mm.length) (hiT : i < T.length)
    (hu : Upd (fun k => some k = mm[i].2.ownBlock) w w6) {V : Value} {l' : List Slot} (hV : SlotsAt w6 V l') :
    SeensRd (w6.setCell ⟨tb, i * 2 + 1, none⟩ V) (.slice (some ⟨tb, 0, none⟩) n cap) (T.set i (T[i].1, l')) := by
  have hut := owns_upd h.own hu (owns_types h.own (h.row i hi hiT).2 (by decide))
  have hu7 := upd_setCell (F := fun k => k = tb) (Upd.refl _ w6) (o := i * 2 + 1) (b := tb) rfl V
  obtain ⟨hl, hcase⟩ := hut
  rcases hcase with ⟨e, _⟩ | ⟨g, cap', cur, e, hg, hb, h1, h2, h3, h4⟩
  · cases e
  simp only [Value.slice.injEq, Option.some.injEq, Addr.mk.injEq, and_true] at e
  obtain ⟨rfl, rfl, rfl⟩ := e
  have hb7 := setCell_same (v := V) (o := i * 2 + 1) hb
  refine SeensAt.rd ⟨mm.set i (mm[i].1, V), ⟨by rw [seenCells_set mm i hi, List.length_set, hl, List.length_set], .inr ⟨tb, 0, cap, _, _, by rw [List.length_set], by rw [List.length_set]; exact h1, h2, hb7, by simp; omega, ?_⟩⟩, ?_⟩
  · rw [seenCells_set mm i hi, List.length_set, ← h4, List.drop_zero, Array.toList_setIfInBounds, List.take_set]
  · refine MRel.of_get (by rw [List.length_set, List.length_set, h.len]) ?_
    intro j h1 h2
    rw [List.length_set] at h1 h2
    by_cases e : j = i
    · subst e
      simp only [List.getElem_set_self]
      refine ⟨(h.row j hi hiT).1, Sl.keptT hV hu7 ?_⟩
      rintro k cur' fz hk rfl
      rw [hb] at hk
      simp at hk
    · have e' : ¬ i = j := fun h => e h.symm
      simp only [List.getElem_set, e', if_false]
      obtain ⟨a1, a2⟩ := h.row j h1 h2
      have a3 := owns_upd a2 hu (by
        intro g hg hx
        rcases Nat.lt_or_gt_of_ne e with hlt | hlt
        · exact h.apart j i h1 hi hlt g hg hx.symm
        · exact h.apart i j hi h1 hlt g hx.symm hg)
      refine ⟨a1, Sl.of_owns (owns_upd a3 hu7 ?_)⟩
      rintro k hk rfl
      rcases a3.2 with ⟨e5, _⟩ | ⟨g5, _, _, e5, _, hb5, _⟩
      · rw [e5] at hk; cases hk
      · rw [e5] at hk
        simp only [Value.ownBlock, Option.some.injEq] at hk
        subst hk
        rw [hb] at hb5
        simp at hb5

theorem owns_some {w : World} {base e size : Nat} {v : Value} {n : Nat} {xs : List Value} (h : w.ownsRow base e size v n xs) (hn : 0 < n) :
    ∃ g cap, v = .slice (some ⟨g, 0, none⟩) n cap ∧ base ≤ g ∧ n ≤ cap ∧ g < w.heap.size ∧ (∀ o, w.frozen? ⟨g, o, none⟩ = false) ∧ ∀ j u, xs[j]? = some u → w.cell? ⟨g, j, none⟩ = some u := by
  have hsl := Sl.of_owns h
  rcases h.2 with ⟨_, h0⟩ | ⟨g, cap, cur, rfl, h1, h2, h3, h4, h5, h6⟩
  · omega
  · refine ⟨g, cap, rfl, h1, h3, (Array.getElem?_eq_some_iff.1 h2).1, fun o => by simp [World.frozen?, h2], ?_⟩
    intro j u hu
    obtain ⟨b, off, cap', e, _, _, _, hc⟩ := hsl.at hn
    simp only [Value.slice.injEq, Option.some.injEq, Addr.mk.injEq, and_true] at e
    obtain ⟨⟨rfl, rfl⟩, _⟩ := e
    have := hc j u hu
    rwa [Nat.zero_add] at this

set_option maxRecDepth 100000 in
set_option maxHeartbeats 2000000 in
theorem R6Add_yes {w : World} {v : Value} {T : List (Int × List Slot)} (h : SeensRd w v T) (hok : ∀ k (hk : k < T.length), RowOk T[k].2) (hT : T.length ≤ 100000) (b : Batch) (rv : Value)
    (hr : Rd w 4 rv b.recs.length (recCells b.recs)) (hg : goodB b = true) (hck : (checkS (rowOf T b.prod) b.prod b.seq).2 = 0) (i : Nat) (hi : i < T.length) (hip : T[i].1 = b.prod) (hn : ∀ j (_ : j < T.length), j < i → T[j].1 ≠ T[i].1) :
    Calls Try.prog 16 #[v, b.v rv] w (Added6 w T (addT T b)) := by
  obtain ⟨a, cap, rfl, -, -⟩ := h.cells
  have hrow : rowOf T b.prod = T[i].2 := by rw [← hip]; exact rowOf_at hi hn
  have hokm : ∀ x ∈ T, RowOk x.2 := by
    intro x hx
    obtain ⟨j, hj, rfl⟩ := List.getElem_of_mem hx
    exact hok j hj
  have good : ∀ w1, Below w.heap.size w w1 → Calls Try.prog 25 #[b.v rv] w1 fun e w' => e = .returned (.bool true) ∧ Below w1.heap.size w1 w' :=
    fun w1 hb1 => by rw [← hg]; exact R3Good_any b rv w1 (hr.below hb1)
  have check := fun w1 (hb1 : Below w.heap.size w w1) => R6Check_agg (h.below hb1) hokm b.prod b.seq
  have copy := fun w1 (hb1 : Below w.heap.size w w1) => R6Copy_any (h.below hb1) hok hT
  have hat : ∀ w1 v1, SeensRd w1 v1 T → Calls Try.prog 26 #[v1, .int .i64 b.prod] w1 fun e w' => e = .returned (.int .i64 i) ∧ w' = w1 :=
    fun w1 v1 h1 => by rw [← hip]; exact at_yes h1 i hi hn
  have hres : addT T b = if b.base < lastFin (rowOf T b.prod) then (T, 20) else (putL T b.prod (last5 (rowOf T b.prod ++ [⟨b.seq, b.base, b.base + b.count⟩])), 0) := by
    have hne : rowOf T b.prod ≠ [] := by rw [hrow]; exact (hok i hi).1
    simp [addT, hg, hck, hne]
  have hgb : 0 ≤ b.base ∧ 1 ≤ b.count ∧ b.count ≤ 8 ∧ b.base ≤ 1099511627776 - b.count := by
    simp only [goodB, isNumB, Bool.and_eq_true, decide_eq_true_eq] at hg
    omega
  rw [hck] at check
  have HRES := Lib.hid hres
  have HROW := Lib.hid (And.intro hrow (And.intro hip hn))
  clear hres hck hr hg h hrow
  obtain ⟨base, count, prod, seq, time, recs⟩ := b
  unfold Batch.v at *
  dsimp only at *
  generalize (checkS (rowOf T prod) prod seq).1 = x at *
  obtain ⟨x0, x1, x2⟩ := x
  dsimp only at *
  have HG := Lib.hid good
  have HC := Lib.hid check
  have HP := Lib.hid copy
  have HA := Lib.hid hat
  have HO := Lib.hid hok
  clear good check copy hat hok hokm hip hn
  have hsum : wrap64 (base + count) = base + count := by rw [← IntWalk.i64_left]; exact IntWalk.i64_in _ (by omega)
  have hi1 : (i : Int) < (T.length : Int) := by omega
  have hi0 : (0 : Int) ≤ (i : Int) := by omega
  go_enter Try.func16, Try.ntmps16
  go_wp2_with (first
    | (go_at_call 25; refine (HG.out _ (below_alloc w _)).mono ?_; rintro e w1 ⟨rfl, hb1⟩; obtain ⟨hc1, hf1⟩ := bcell hb1; have hs1 := hb1.size; simp only [World.size_alloc] at hs1)
    | (go_at_call 17; refine (HC.out _ (below_trans (below_alloc w _) hb1)).mono ?_; rintro e w2 ⟨rfl, hb2⟩; obtain ⟨hc2, hf2⟩ := bcell hb2; have hs2 := hb2.size))
  have hb02 : Below w.heap.size w w2 := below_trans (below_trans (below_alloc w _) hb1) hb2
  have hb2s : Below w.heap.size w (w2.alloc (.cells #[.int .i64 x0, .int .i64 x1, .int .i64 x2] 32)) := below_trans hb02 (below_alloc w2 _)
  refine (HP.out _ hb2s).mono ?_
  rintro e w3 ⟨vt, mm, rfl, hown, hb3⟩
  have hs3 := hb3.size
  simp only [World.size_alloc] at hs3
  have qq := fun o u (hq : (w.alloc (.cells #[.int .i64 base, .int .i64 count, .int .i64 prod, .int .i64 seq, .int .i64 time, rv] 39)).cell? ⟨w.heap.size, o, none⟩ = some u) => below_some hb3 (below_some (below_alloc w2 (.cells #[.int .i64 x0, .int .i64 x1, .int .i64 x2] 32)) (below_some hb2 (below_some hb1 hq (by simp)) (by omega)) (by omega)) (by simp; omega)
  have q0 := qq 0 (.int .i64 base) (by simp [go_sem])
  have q1 := qq 1 (.int .i64 count) (by simp [go_sem])
  have q2 := qq 2 (.int .i64 prod) (by simp [go_sem])
  have q3 := qq 3 (.int .i64 seq) (by simp [go_sem])
  have hb03 := below_trans hb2s hb3
  have hw3 : w.heap.size < w3.heap.size := by omega
  clear qq hc1 hf1 hc2 hf2 hb1 hb2 hb02
  have hmi : i < mm.length := by rw [hown.len]; exact hi
  obtain ⟨tb, tcap, rfl, htbN, htbc, htb, htf, htc⟩ := owns_some hown.own (by omega)
  have hlen := hown.len
  rw [hlen] at htbc hown ⊢
  obtain ⟨gb, gcap, ge, hgN, hgc, hgb5, hgf, hgcell⟩ := owns_some (hown.row i hmi hi).2 (List.length_pos_iff.2 (HO.out i hi).1)
  have t1 := (htc (i * 2 + 1) _ (seenCells_get mm i hmi).2).trans (congrArg some ge)
  have hlc := hgcell ((T[i].2.length - 1) * 3 + 2) _ (rowCells_get T[i].2 (T[i].2.length - 1) (by have := List.length_pos_iff.2 (HO.out i hi).1; omega)).2.2
  rw [← lastFin_get (List.length_pos_iff.2 (HO.out i hi).1)] at hlc
  have hrok := HO.out i hi
  have hpos := List.length_pos_iff.2 hrok.1
  have hn5 := hrok.2.1
  have HRE := Lib.hid HROW.out.1
  have HOT := Lib.hid (And.intro hown (And.intro ge (And.intro hgcell (And.intro htc hgN))))
  have HXX := Lib.hid (And.intro hmi (And.intro hlen hrok))
  clear hown ge hgcell htc hgN hgf hlen hrok
  obtain ⟨l, hl⟩ : ∃ l, T[i].2 = l := ⟨_, rfl⟩
  rw [hl] at t1 hlc hgc hpos hn5
  have HL := Lib.hid hl
  clear hl
  have hpos' : (0 : Int) < (l.length : Int) := by omega
  have hn5' : (l.length : Int) ≤ 5 := by omega
  have hcast : ((l.length - 1 : Nat) : Int) = (l.length : Int) - 1 := by omega
  have v1 : IntKind.i64.wrap ((l.length : Int) - 1) = (l.length : Int) - 1 := IntWalk.i64_in _ (by omega)
  have v2 : (0 : Int) ≤ (l.length : Int) - 1 := by omega
  have v3 : (1 : Int) ≤ (l.length : Int) := by omega
  have v4 : ((l.length : Int) - 1).toNat = l.length - 1 := by omega
  have v5 : (l.length : Int) - 1 < (l.length : Int) := by omega
  go_wp2_with fail
  refine (HA.out _ _ (SeensRd.below HOT.out.1.seens.rd (below_alloc w3 (.cells #[.int .i64 seq, .int .i64 base, .int .i64 (base + count)] 32)))).mono ?_
  rintro e w4 ⟨rfl, rfl⟩
  by_cases hlate : base < lastFin l
  · have hres := HRES.out
    rw [HRE.out, HL.out, if_pos hlate] at hres
    have HR2 := Lib.hid hres
    clear hres
    go_wp2
    go_quiet (fail)
    go_wp2
    rw [HR2.out]
    exact bodyPost_ret (v := .tuple #[.slice (some ⟨tb, 0, none⟩) T.length tcap, .int .i64 20]) (by simp [results, Try.results16, go_sem]) rfl ⟨_, rfl, fun h0 => by simp at h0, below_drewN (below_trans hb03 (below_alloc w3 _)) _⟩
  · have hres := HRES.out
    rw [HRE.out, HL.out, if_neg hlate] at hres
    have HR2 := Lib.hid hres
    clear hres HRES
    have hd : decide (base < lastFin l) = false := by simpa using hlate
    go_wp2
    go_quiet (fail)
    generalize hW : World.drewN _ _ = w4
    have hb34 : Below w3.heap.size w3 w4 := by rw [← hW]; exact below_drewN (below_alloc w3 _) _
    have hw34 : w3.heap.size < w4.heap.size := by rw [← hW]; simp
    have x0c : w4.cell? ⟨w3.heap.size, 0, none⟩ = some (.int .i64 seq) := by rw [← hW]; simp [go_sem]
    have x1c : w4.cell? ⟨w3.heap.size, 1, none⟩ = some (.int .i64 base) := by rw [← hW]; simp [go_sem]
    have x2c : w4.cell? ⟨w3.heap.size, 2, none⟩ = some (.int .i64 (base + count)) := by rw [← hW]; simp [go_sem]
    have htg : tb ≠ gb := by
      intro e
      refine owns_types HOT.out.1.own (HOT.out.1.row i hmi hi).2 (by decide) tb rfl ?_
      rw [HOT.out.2.1, e]; rfl
    have HT1 := Lib.hid (And.intro htg (And.intro t1 htf))
    have HB34 := Lib.hid hb34
    clear hW t1 htf htg hlc hd hlate q0 q1 q2 q3
    obtain ⟨k0, ki, kz0, kz1, kz2⟩ := info_parts info_Slot
    have hrow4 : w4.ownsRow (w2.alloc (.cells #[.int .i64 x0, .int .i64 x1, .int .i64 x2] 32)).heap.size 32 3 (.slice (some ⟨gb, 0, none⟩) l.length gcap) l.length (rowCells l) := by
      have := owns_upd (HOT.out.1.row i hmi hi).2 (Upd.of_below (F := fun _ => False) hb34) (fun _ _ h => h)
      rw [HOT.out.2.1, HL.out] at this
      exact this
    have HR4 := Lib.hid hrow4
    clear hrow4
    have hs2' : (w2.alloc (.cells #[.int .i64 x0, .int .i64 x1, .int .i64 x2] 32)).heap.size ≤ w4.heap.size := by simp only [World.size_alloc]; omega
    have hup : ∀ w6, (w4.alloc (.cells #[.int .i64 seq, .int .i64 base, .int .i64 (base + count)] 32)).grownBy w6 (some gb) →
        Upd (fun k => some k = some gb) w3 w6 ∧ w6.cell? ⟨tb, i * 2 + 1, none⟩ = some (.slice (some ⟨gb, 0, none⟩) l.length gcap) ∧ w6.frozen? ⟨tb, i * 2 + 1, none⟩ = false := by
      intro w6 hg
      have hu : Upd (fun k => some k = some gb) w3 w6 := ((Upd.of_below hb34).trans (upd_alloc _ w4 _)).trans (upd_grown hg)
      have hbk := hu.block tb htb (by simp only [Option.some.injEq]; exact HT1.out.1)
      exact ⟨hu, (World.cell?_of_block hbk).trans HT1.out.2.1, (World.frozen?_of_block hbk).trans (HT1.out.2.2 _)⟩
    have HUP := Lib.hid hup
    have hF6 : ∀ w6 : World, Upd (fun k => some k = some gb) w3 w6 → Upd (fun k => some k = mm[i].2.ownBlock) w3 w6 := by
      intro w6 h
      rw [HOT.out.2.1]; exact h
    have hw03 := hb03.size
    have HF6 := Lib.hid hF6
    clear hup hF6 hb34
    by_cases h5 : l.length = 5
    · have H5 := Lib.hid h5
      go_wp2_with (at_builtin; refine wpList_append_lies _ rfl _ _ 57 rfl (w2.alloc (.cells #[.int .i64 x0, .int .i64 x1, .int .i64 x2] 32)).heap.size 32 k0 _ 3 24 und_Slots ki kz0 kz1 kz2 rfl (by decide) (.slice (some ⟨gb, 0, none⟩) l.length gcap) l.length (rowCells l) rfl (HR4.out.alloc _) ⟨w4.heap.size, 0, none⟩ 1 1 [.int .i64 seq, .int .i64 base, .int .i64 (base + count)] rfl rfl (World.news_of_block (cs := #[.int .i64 seq, .int .i64 base, .int .i64 (base + count)]) (t := 32) (fr := (0, 0)) (heap_alloc_new w4 _)) (by simp [Value.oneCell']) (by decide) ?_ ?_ ?_ _ rfl ?_; (unfold maxLen; omega); omega; (simp only [World.size_alloc] at hs2' ⊢; omega); intro g6 gcap6 w6 hown6 hgrow6 hat6 hlt6; obtain ⟨u6, t6, f6⟩ := HUP.out _ hgrow6; have hgc6 : l.length + 1 ≤ gcap6 := (by obtain ⟨_, _, e, h⟩ := (Sl.of_owns hown6).shape; simp only [Value.slice.injEq] at e; omega); have D := Lib.hid (And.intro hown6 (And.intro hgrow6 u6)); clear hown6 hgrow6 hat6 u6; have g2 : 6 ≤ gcap6 := (by omega); have g3 : (6 : Int) ≤ (gcap6 : Int) := (by omega); have g4 : ¬ gcap6 = 1 := (by omega); have g1 : IntKind.i64.wrap 1 = 1 := (by decide))
      obtain ⟨hown6, hgrow6, u6⟩ := D.out
      have hs6 := Sl.of_owns hown6
      have hV := slots_last5 (x := ⟨seq, base, base + count⟩) hs6
      rw [H5.out] at hV
      have hput := HOT.out.1.put hmi hi (HF6.out _ u6) hV
      rw [← putL_at hi HROW.out.2.2, HROW.out.2.1] at hput
      rw [HR2.out]
      have hN0 := hb2s.size
      have hgN := HOT.out.2.2.2.2
      exact bodyPost_ret (v := .tuple #[.slice (some ⟨tb, 0, none⟩) T.length tcap, .int .i64 0]) (by simp [results, Try.results16, go_sem]) rfl ⟨_, rfl, fun _ => hput, hb03.trans (((HB34.out.mono hw03).alloc (by omega) _).grown hgrow6 (by simp only [World.size_alloc]; omega) (fun k e => by simp [Value.ownBlock] at e; omega) |>.setCell (by show w.heap.size ≤ tb; omega) _)⟩
    · have H5 := Lib.hid h5
      go_wp2_with (at_builtin; refine wpList_append_lies _ rfl _ _ 57 rfl (w2.alloc (.cells #[.int .i64 x0, .int .i64 x1, .int .i64 x2] 32)).heap.size 32 k0 _ 3 24 und_Slots ki kz0 kz1 kz2 rfl (by decide) (.slice (some ⟨gb, 0, none⟩) l.length gcap) l.length (rowCells l) rfl (HR4.out.alloc _) ⟨w4.heap.size, 0, none⟩ 1 1 [.int .i64 seq, .int .i64 base, .int .i64 (base + count)] rfl rfl (World.news_of_block (cs := #[.int .i64 seq, .int .i64 base, .int .i64 (base + count)]) (t := 32) (fr := (0, 0)) (heap_alloc_new w4 _)) (by simp [Value.oneCell']) (by decide) ?_ ?_ ?_ _ rfl ?_; (unfold maxLen; omega); omega; (simp only [World.size_alloc] at hs2' ⊢; omega); intro g6 gcap6 w6 hown6 hgrow6 hat6 hlt6; obtain ⟨u6, t6, f6⟩ := HUP.out _ hgrow6; have hgc6 : l.length + 1 ≤ gcap6 := (by obtain ⟨_, _, e, h⟩ := (Sl.of_owns hown6).shape; simp only [Value.slice.injEq] at e; omega); have D := Lib.hid (And.intro hown6 (And.intro hgrow6 u6)); clear hown6 hgrow6 hat6 u6; have g2 : decide ((5 : Int) < (l.length : Int) + 1) = false := (by rw [decide_eq_false_iff_not]; omega))
      obtain ⟨hown6, hgrow6, u6⟩ := D.out
      have hs6 := Sl.of_owns hown6
      have hV := slots_last5 (x := ⟨seq, base, base + count⟩) hs6
      have e5 : l.length + 1 - 5 = 0 := by have := H5.out; omega
      rw [e5] at hV
      have hput := HOT.out.1.put hmi hi (HF6.out _ u6) hV
      rw [← putL_at hi HROW.out.2.2, HROW.out.2.1] at hput
      rw [HR2.out]
      have hN0 := hb2s.size
      have hgN := HOT.out.2.2.2.2
      exact bodyPost_ret (v := .tuple #[.slice (some ⟨tb, 0, none⟩) T.length tcap, .int .i64 0]) (by simp [results, Try.results16, go_sem]) rfl ⟨_, rfl, fun _ => hput, hb03.trans (((HB34.out.mono hw03).alloc (by omega) _).grown hgrow6 (by simp only [World.size_alloc]; omega) (fun k e => by simp [Value.ownBlock] at e; omega) |>.setCell (by show w.heap.size ≤ tb; omega) _)⟩
end Go.Proofs.Ytcgjhifcocmdaaa
