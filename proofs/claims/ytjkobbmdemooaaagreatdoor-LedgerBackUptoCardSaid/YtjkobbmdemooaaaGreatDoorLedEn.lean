/- The walk of ledger.Encode. -/
import Derived.Test.YtjkobbmdemooaaaGreatDoorBeadW
import Derived.Test.YtjkobbmdemooaaaGreatDoorBeadT
import Derived.Test.YtjkobbmdemooaaaGreatDoorOwn
namespace Go.Proofs.YtjkobbmdemooaaaGreatDoor
open Go.RowKit

theorem und_Strings : Tryz.prog.underlying 106 = some (.slice 9) := by kernel_rfl
theorem info_String : (Tryz.prog.info? 9).map (fun i => (i.zero, i.size, i.bytes)) = some (some (.string ⟨#[]⟩), 1, 16) := by kernel_rfl

def strCells (xs : List (List UInt8)) : List Value := xs.map (fun l => Value.string (bs l))
theorem strCells_length (xs : List (List UInt8)) : (strCells xs).length = xs.length := by simp [strCells]
theorem strCells_one (xs : List (List UInt8)) : ∀ u ∈ strCells xs, u.oneCell' = true := by
  intro u hu
  obtain ⟨l, -, rfl⟩ := List.mem_map.1 hu
  rfl

theorem strs_of_owns {w : World} {base : Nat} {v : Value} {n : Nat} {xs : List (List UInt8)} (h : w.ownsRow base 9 1 v n (strCells xs)) (hn : n = xs.length) : Strs w v xs := by
  subst hn
  have := (Sl.of_owns h).rd
  exact this

theorem strs_made {w : World} (xs : List (List UInt8)) (hx : xs.length ≤ 1000) : (w.alloc (.cells (strCells xs).toArray 9)).ownsRow w.heap.size 9 1 (.slice (some ⟨w.heap.size, 0, none⟩) xs.length xs.length) xs.length (strCells xs) := by
  refine ⟨by simp [strCells], .inr ⟨w.heap.size, xs.length, (strCells xs).toArray, rfl, Nat.le_refl _, heap_alloc_new _ _, Nat.le_refl _, by unfold maxLen; omega, by simp [strCells], by rw [List.take_of_length_le (by simp [strCells])]⟩⟩

/-- What stands in a new block stands behind a growth of an elder one. -/
theorem keep9 {wr w8 w9 : World} {N : Nat} {cs : Array Value} {E : Nat} {o : Obj} {r : Option Nat} {y0 y1 y2 : Int}
    (hK : ∀ w', Below (wr.heap.size + 1) (wr.alloc (.cells cs E)) w' → w'.cell? ⟨wr.heap.size, 0, none⟩ = some (.int .i64 y0) ∧ w'.cell? ⟨wr.heap.size, 1, none⟩ = some (.int .i64 y1) ∧ w'.cell? ⟨wr.heap.size, 2, none⟩ = some (.int .i64 y2))
    (hb : Below (wr.heap.size + 1) (wr.alloc (.cells cs E)) w8) (hg : (w8.alloc o).grownBy w9 r) (hr : ∀ g, r = some g → N ≤ g ∧ g < wr.heap.size) :
    w9.cell? ⟨wr.heap.size, 0, none⟩ = some (.int .i64 y0) ∧ w9.cell? ⟨wr.heap.size, 1, none⟩ = some (.int .i64 y1) ∧ w9.cell? ⟨wr.heap.size, 2, none⟩ = some (.int .i64 y2) := by
  have hz : wr.heap.size + 1 ≤ w8.heap.size := by have := hb.size; simpa using this
  obtain ⟨h0, h1, h2⟩ := hK _ (hb.alloc hz o)
  have hn : ¬ some wr.heap.size = r := by
    intro e
    have := (hr _ e.symm).2
    omega
  exact ⟨upd_some (upd_grown hg) h0 hn, upd_some (upd_grown hg) h1 hn, upd_some (upd_grown hg) h2 hn⟩

set_option maxRecDepth 100000 in
set_option maxHeartbeats 2000000 in
theorem LedEncode_yes {w : World} {v : Value} {T : List (Int × List Slot)} (h : SeensRd w v T) (hT : isTableB T = true) (hE : Env w) :
    Calls Tryz.prog 27 #[v] w fun e w' => e = .returned (.tuple #[.string (bs (encT T)), .int .i64 0]) ∧ Below w.heap.size w w' := by
  have ht := LedisTable_any h
  rw [hT] at ht
  have HT := Lib.hid ht
  obtain ⟨a, cap, rfl, hml, hC⟩ := h.cells
  have h64 := (isTableB_ok hT).2
  have HC := Lib.hid hC
  have HTR := Lib.hid (fun k hk => table_rows hT k hk)
  have HFL := Lib.hid (encT_flat hT)
  have bint : ∀ n w', I64 n → Below w.heap.size w w' → Calls Tryz.prog 55 #[.int .i64 n] w' fun e w1 => e = .returned (.string (bs (encI n))) ∧ Below w'.heap.size w' w1 :=
    fun n w' hn hb => BInt_any hn w' (hE.below hb)
  have HB := Lib.hid bint
  obtain ⟨i0, hi, hz0, hz1, hz2⟩ := info_parts info_String
  clear ht hT h hC hE bint
  go_enter Tryz.func27, Tryz.ntmps27
  go_wp2_with fail
  refine HT.out.mono ?_
  rintro e w1 ⟨rfl, hb1⟩
  go_wp2
  have hN := hb1.size
  go_loopg [4, 6, 7, 9, 15] T.length (fun gk out _ _ _ i wr => ∃ k : Nat, k ≤ T.length ∧ gk = T.length - k ∧ i = .int .i64 k ∧ wr.ownsRow w1.heap.size 9 1 out k (strCells ((T.take k).map encRow)) ∧ Below w1.heap.size w1 wr)
  case atStart => exact ⟨0, Nat.zero_le _, rfl, rfl, World.ownsRow_nil _ _ _ _, Below.refl _ _⟩
  case round =>
    obtain ⟨wo, hwo⟩ : ∃ wo, wo = wr := ⟨_, rfl⟩
    subst hwo
    obtain ⟨k, hk, rfl, rfl, hown, hbel⟩ := hrel
    have HX := Lib.hid hown
    clear hown
    have hsz := hbel.size
    by_cases hlt : k < T.length
    · obtain ⟨b, off, sa, sc, rfl, hb, c0, c1, hsl⟩ := HC.out k hlt
      have hb' : b < w1.heap.size := by omega
      have c0 := below_some hbel (below_some hb1 c0 hb) hb'
      have c1 := below_some hbel (below_some hb1 c1 hb) hb'
      have hslr := hsl.below (below_trans hb1 hbel)
      have htk : T.take (k + 1) = T.take k ++ [(T[k].1, T[k].2)] := by rw [List.take_succ_eq_append_getElem hlt]
      have HTK := Lib.hid htk
      obtain ⟨hp64, hs64, hl5⟩ := HTR.out k hlt
      clear htk hsl
      have i2 : (k : Int) < (T.length : Int) := by omega
      have i3 : (0 : Int) ≤ (k : Int) := by omega
      have HS := Lib.hid hs64
      clear hs64
      generalize T[k].1 = p at *
      generalize T[k].2 = l at *
      have hbw : b < wo.heap.size := by omega
      go_wp2_with fail
      refine (HB.out p _ hp64 ?_).mono ?_
      · exact below_trans hb1 (hbel.trans (below_alloc wo _ |>.mono hsz))
      rintro e w4 ⟨rfl, hb4⟩
      have hs4 := hb4.size
      simp only [World.size_alloc] at hs4
      have x1 : w4.cell? ⟨wo.heap.size, 1, none⟩ = some (.slice sa l.length sc) := below_some hb4 (by simp [go_sem]) (by simp)
      have hw4 : wo.heap.size < w4.heap.size := by omega
      have hbel4 : Below wo.heap.size wo w4 := (below_alloc wo _).trans (hb4.mono (by simp))
      clear hb4
      have hl5' : (l.length : Int) ≤ 5 := by omega
      go_wp2
      have HM := Lib.hid (strs_made (w := w4) [encI p] (by simp))
      go_loopg [7, 9, 26] l.length (fun gk row _ i wi => ∃ j : Nat, j ≤ l.length ∧ gk = l.length - j ∧ i = .int .i64 j ∧ wi.ownsRow wo.heap.size 9 1 row (j + 1) (strCells (encI p :: (l.take j).map encSlot)) ∧ Below wo.heap.size wo wi)
      case atStart => exact ⟨0, Nat.zero_le _, rfl, rfl, owns_mono HM.out (by omega), hbel4.alloc (by omega) _⟩
      case round =>
        obtain ⟨j, hj, rfl, rfl, hrown, hbi⟩ := hrel
        have HY := Lib.hid hrown
        clear hrown
        have hsi := hbi.size
        by_cases hjt : j < l.length
        · obtain ⟨rb, ro, rcap, e, -, -, hrb, hrc⟩ := Rd.at hslr (by omega)
          simp only [Value.slice.injEq, true_and] at e
          obtain ⟨rfl, rfl⟩ := e
          obtain ⟨g0, g1, g2⟩ := rowCells_get l j hjt
          have d0 := below_some hbi (hrc _ _ g0) hrb
          have d1 := below_some hbi (hrc _ _ g1) hrb
          have d2 := below_some hbi (hrc _ _ g2) hrb
          rw [← Nat.add_assoc] at d1 d2
          have hrbi : rb < wr.heap.size := by omega
          have htj : l.take (j + 1) = l.take j ++ [⟨l[j].seq, l[j].base, l[j].fin⟩] := by rw [List.take_succ_eq_append_getElem hjt]
          have HTJ := Lib.hid htj
          obtain ⟨y64a, y64b, y64c⟩ := HS.out _ (List.getElem_mem hjt)
          clear htj hrc g0 g1 g2
          generalize l[j].seq = y0 at *
          generalize l[j].base = y1 at *
          generalize l[j].fin = y2 at *
          have j2 : (j : Int) < (l.length : Int) := by omega
          have j3 : (0 : Int) ≤ (j : Int) := by omega
          go_wp2
          have hwy : ∀ w', Below (wr.heap.size + 1) (wr.alloc (.cells #[.int .i64 y0, .int .i64 y1, .int .i64 y2] 69)) w' → w'.cell? ⟨wr.heap.size, 0, none⟩ = some (.int .i64 y0) ∧ w'.cell? ⟨wr.heap.size, 1, none⟩ = some (.int .i64 y1) ∧ w'.cell? ⟨wr.heap.size, 2, none⟩ = some (.int .i64 y2) := by
            intro w' hb'
            exact ⟨below_some hb' (by simp [go_sem]) (by omega), below_some hb' (by simp [go_sem]) (by omega), below_some hb' (by simp [go_sem]) (by omega)⟩
          have HK := Lib.hid hwy
          have hbwi : Below w.heap.size w (wr.alloc (.cells #[.int .i64 y0, .int .i64 y1, .int .i64 y2] 69)) := below_trans hb1 (below_trans hbel (below_trans hbi (below_alloc wr _)))
          have hsz2 : w.heap.size ≤ wr.heap.size + 1 := by have := hb1.size; omega
          have bi : ∀ n w', I64 n → Below (wr.heap.size + 1) (wr.alloc (.cells #[.int .i64 y0, .int .i64 y1, .int .i64 y2] 69)) w' → Calls Tryz.prog 55 #[.int .i64 n] w' fun e w2 => e = .returned (.string (bs (encI n))) ∧ Below (wr.heap.size + 1) (wr.alloc (.cells #[.int .i64 y0, .int .i64 y1, .int .i64 y2] 69)) w2 := by
            intro n w' hn hb'
            refine (HB.out n w' hn (hbwi.trans (hb'.mono hsz2))).mono ?_
            rintro e w2 ⟨he, hb2⟩
            have hz := hb'.size
            simp only [World.size_alloc] at hz
            exact ⟨he, hb'.trans (hb2.mono hz)⟩
          have bl : ∀ w', Below (wr.heap.size + 1) (wr.alloc (.cells #[.int .i64 y0, .int .i64 y1, .int .i64 y2] 69)) w' → Calls Tryz.prog 54 #[.slice (some ⟨w'.heap.size, 0, none⟩) 3 3] (w'.alloc (.cells #[.string (bs (encI y0)), .string (bs (encI y1)), .string (bs (encI y2))] 9)) fun e w2 => e = .returned (.string (bs (encSlot ⟨y0, y1, y2⟩))) ∧ Below (wr.heap.size + 1) (wr.alloc (.cells #[.int .i64 y0, .int .i64 y1, .int .i64 y2] 69)) w2 := by
            intro w' hb'
            have l0 := encI_le y64a
            have l1 := encI_le y64b
            have l2 := encI_le y64c
            refine (BList_any (xs := [encI y0, encI y1, encI y2]) (strs_of_owns (strs_made (w := w') [encI y0, encI y1, encI y2] (by simp)) rfl) (by simp) (by simp; omega)).mono ?_
            rintro e w2 ⟨rfl, hb2⟩
            have hz := hb'.size
            simp only [World.size_alloc] at hz
            exact ⟨by simp [encSlot], hb'.trans ((below_alloc w' _).mono hz |>.trans (hb2.mono (by simp; omega)))⟩
          have HBI := Lib.hid bi
          have HBL := Lib.hid bl
          clear bi bl hwy
          go_region_held3 (fun w' => w'.cell? ⟨wr.heap.size, 0, none⟩ = some (.int .i64 y0) ∧ w'.cell? ⟨wr.heap.size, 1, none⟩ = some (.int .i64 y1) ∧ w'.cell? ⟨wr.heap.size, 2, none⟩ = some (.int .i64 y2))
            (first | with_reducible exact HK.out _ (Below.refl _ _) | with_reducible exact HK.out _ (Below.refl _ _).drew  | (have hg := hb5; first | with_reducible exact HK.out _ hb5 | with_reducible exact HK.out _ hb5.drew)  | (have hg := hb6; first | with_reducible exact HK.out _ hb6 | with_reducible exact HK.out _ hb6.drew)  | (have hg := hb7; first | with_reducible exact HK.out _ hb7 | with_reducible exact HK.out _ hb7.drew | with_reducible exact HK.out _ (hb7.alloc hz7 _))  | (have hg := hb8; first | with_reducible exact HK.out _ hb8 | with_reducible exact HK.out _ hb8.drew | with_reducible exact HK.out _ (hb8.alloc hz8 _))  | (have hg := hk9; first | with_reducible exact hk9))
            (first
              | (go_at_call 55; have hg := hb6; refine (HBI.out _ _ (by assumption) hb6).mono ?_; rintro e w7 ⟨rfl, hb7⟩; have hz7 : wr.heap.size + 1 ≤ w7.heap.size := (by have := hb7.size; simpa using this))
              | (go_at_call 55; have hg := hb5; refine (HBI.out _ _ (by assumption) hb5).mono ?_; rintro e w6 ⟨rfl, hb6⟩)
              | (go_at_call 55; refine (HBI.out _ _ (by assumption) ?_).mono ?_; (first | with_reducible exact Below.refl _ _ | with_reducible exact (Below.refl _ _).drew); rintro e w5 ⟨rfl, hb5⟩)
              | (go_at_call 54; refine (HBL.out _ hb7).mono ?_; rintro e w8 ⟨rfl, hb8⟩; have hz8 : wr.heap.size + 1 ≤ w8.heap.size := (by have := hb8.size; simpa using this))
              | (refine step_append_lies _ (by rfl) _ _ _ (by rfl) wo.heap.size 9 i0 _ 1 16 und_Strings hi hz0 hz1 hz2 rfl (by omega) u7 (j + 1) (strCells (encI p :: (l.take j).map encSlot)) (by rfl) ((owns_upd HY.out (Upd.of_below (F := fun _ => False) ((below_alloc wr _).trans (hb8.mono (Nat.le_succ _)))) (fun _ _ h => h)).alloc _) ⟨w8.heap.size, 0, none⟩ 1 1 [.string (bs (encSlot ⟨y0, y1, y2⟩))] (by rfl) (by rfl) (World.news_of_block (cs := #[.string (bs (encSlot ⟨y0, y1, y2⟩))]) (t := 9) (fr := (0, 0)) (heap_alloc_new w8 _)) (by simp [Value.oneCell']) (by omega) ?_ ?_ ?_ _ rfl ?_; (unfold maxLen; omega); omega; (simp only [World.size_alloc]; omega); rintro g9 gcap9 w9 hown9 hgrow9 - hlt9; have hk9 := keep9 HK.out hb8 hgrow9 (owns_lt HY.out)))
          have hbw8 : Below wo.heap.size wr w8 := ((below_alloc wr _).trans (hb8.mono (Nat.le_succ _))).mono hsi
          have hb09 : Below wo.heap.size wo w9 := ((hbi.trans hbw8).alloc (by omega) _).grown hgrow9 (by simp only [World.size_alloc]; omega) (fun k e => (owns_lt HY.out k e).1)
          have e9 : strCells (encI p :: (l.take j).map encSlot) ++ [.string (bs (encSlot ⟨y0, y1, y2⟩))] = strCells (encI p :: (l.take (j + 1)).map encSlot) := by rw [HTJ.out]; simp [strCells]
          rw [e9] at hown9
          have HFIN := Lib.hid (And.intro hown9 hb09)
          clear hown9 hb09 hgrow9 hlt9 e9 hk9 hb8 hb7 hb6 hb5 hbw8
          go_wp2
          go_roundg (l.length - (j + 1))
          case measure => omega
          case rel => exact ⟨j + 1, by omega, rfl, by go_num, HFIN.out.1, HFIN.out.2⟩
        · have j2 : ¬ (j : Int) < (l.length : Int) := by omega
          have htj : l.take j = l := List.take_of_length_le (by omega)
          have hjl : j = l.length := by omega
          have hrow := HY.out
          rw [htj] at hrow
          have hS := strs_of_owns hrow (by simp; omega)
          have hfl : (encI p :: l.map encSlot).flatten.length ≤ 1000 := by
            have a1 := encI_le hp64
            have a2 := flat_bound encSlot 71 l (fun x hx => encSlot_le (HS.out x hx))
            have a3 : l.length * 71 ≤ 5 * 71 := Nat.mul_le_mul_right 71 hl5
            rw [List.flatten_cons, List.length_append, ← List.flatMap_def]
            omega
          have hBR := BList_any hS (by simp; omega) (by omega)
          have e10 : 108 :: ((encI p :: l.map encSlot).flatten ++ [101]) = encRow (p, l) := by
            rw [List.flatten_cons, ← List.flatMap_def]; simp [encRow]
          rw [e10] at hBR
          have HBR := Lib.hid hBR
          clear hrow hS hfl hBR e10 htj
          go_wp2_with (first
            | (go_at_call 54; refine HBR.out.mono ?_; rintro e w5 ⟨rfl, hb5⟩)
            | (at_builtin; refine wpList_append_lies _ rfl _ _ 106 rfl w1.heap.size 9 i0 _ 1 16 und_Strings hi hz0 hz1 hz2 rfl (by decide) u4 k (strCells ((T.take k).map encRow)) rfl ((owns_upd HX.out (Upd.of_below (F := fun _ => False) (below_trans hbi hb5)) (fun _ _ h => h)).alloc _) ⟨w5.heap.size, 0, none⟩ 1 1 [.string (bs (encRow (p, l)))] rfl rfl (World.news_of_block (cs := #[.string (bs (encRow (p, l)))]) (t := 9) (fr := (0, 0)) (heap_alloc_new w5 _)) (by simp [Value.oneCell']) (by decide) ?_ ?_ ?_ _ rfl ?_; (unfold maxLen; omega); omega; (have := hb5.size; simp only [World.size_alloc]; omega); intro g6 gcap6 w6 hown6 hgrow6 hat6 hlt6; have hb6 : Below w1.heap.size w1 w6 := (((hbel.trans ((below_trans hbi hb5).mono hsz)).alloc (by have := hb5.size; omega) _).grown hgrow6 (by have := hb5.size; simp only [World.size_alloc]; omega) (fun k e => (owns_lt HX.out k e).1)); have D := Lib.hid (And.intro hown6 hb6); clear hown6 hgrow6 hat6 hlt6 hb6))
          obtain ⟨hown6, hb6⟩ := D.out
          have e11 : strCells ((T.take k).map encRow) ++ [.string (bs (encRow (p, l)))] = strCells ((T.take (k + 1)).map encRow) := by rw [HTK.out]; simp [strCells]
          rw [e11] at hown6
          have HFIN := Lib.hid (And.intro hown6 hb6)
          clear hown6 hb6 e11 D
          go_roundg (T.length - (k + 1))
          case measure => omega
          case rel => exact ⟨k + 1, by omega, rfl, by go_num, HFIN.out.1, HFIN.out.2⟩
    · have i2 : ¬ (k : Int) < (T.length : Int) := by omega
      have htk : T.take k = T := List.take_of_length_le (by omega)
      have hkl : k = T.length := by omega
      have hrow := HX.out
      rw [htk] at hrow
      have hS := strs_of_owns hrow (by simp; omega)
      have hfl := HFL.out
      rw [List.flatMap_def] at hfl
      have hBR := BList_any hS (by simp; omega) (by omega)
      have e10 : 108 :: ((T.map encRow).flatten ++ [101]) = encT T := by rw [← List.flatMap_def]; rfl
      rw [e10] at hBR
      have HBR := Lib.hid hBR
      clear hrow hS hfl hBR e10 htk
      go_wp2_with (first | (go_at_call 54; refine HBR.out.mono ?_; rintro e w5 ⟨rfl, hb5⟩))
      exact bodyPost_ret (v := .tuple #[.string (bs (encT T)), .int .i64 0]) (by simp [results, Tryz.results27, go_sem]) rfl ⟨rfl, below_trans hb1 (below_trans hbel hb5)⟩

theorem LedEncode_no {w : World} {v : Value} {T : List (Int × List Slot)} (h : SeensRd w v T) (hT : isTableB T = false) :
    Calls Tryz.prog 27 #[v] w fun e w' => e = .returned (.tuple #[.string (bs []), .int .i64 1]) ∧ Below w.heap.size w w' := by
  have ht := LedisTable_any h
  rw [hT] at ht
  have HT := Lib.hid ht
  clear ht hT h
  go_enter Tryz.func27, Tryz.ntmps27
  go_wp2_with (first | (go_at_call 66; refine HT.out.mono ?_; rintro e w1 ⟨rfl, hb1⟩))
  exact bodyPost_ret (v := .tuple #[.string ⟨#[]⟩, .int .i64 1]) (by simp [results, Tryz.results27, go_sem]) rfl ⟨rfl, hb1⟩
end Go.Proofs.YtjkobbmdemooaaaGreatDoor
