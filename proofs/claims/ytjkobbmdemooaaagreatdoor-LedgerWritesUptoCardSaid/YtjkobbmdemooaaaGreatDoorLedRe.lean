/- The walk of the reference's Encode. -/
import Derived.Test.YtjkobbmdemooaaaGreatDoorBeadR
import Derived.Test.YtjkobbmdemooaaaGreatDoorLedEn
import Derived.Test.YtjkobbmdemooaaaGreatDoorLedE3
namespace Go.Proofs.YtjkobbmdemooaaaGreatDoor
open Go.RowKit

theorem R6Encode_no {w : World} {v : Value} {T : List (Int × List Slot)} (h : SeensRd w v T) (hT : isTableB T = false) :
    Calls Tryz.prog 28 #[v] w fun e w' => e = .returned (.tuple #[.string (bs []), .int .i64 1]) ∧ Below w.heap.size w w' := by
  have ht := R6Good_any h
  rw [hT] at ht
  have HT := Lib.hid ht
  clear ht hT h
  go_enter Tryz.func28, Tryz.ntmps28
  go_wp2_with (first | (go_at_call 67; refine HT.out.mono ?_; rintro e w1 ⟨rfl, hb1⟩))
  exact bodyPost_ret (v := .tuple #[.string ⟨#[]⟩, .int .i64 1]) (by simp [results, Tryz.results28, go_sem]) rfl ⟨rfl, hb1⟩

set_option maxRecDepth 100000 in
set_option maxHeartbeats 2000000 in
theorem R6Encode_yes {w : World} {v : Value} {T : List (Int × List Slot)} (h : SeensRd w v T) (hT : isTableB T = true) :
    Calls Tryz.prog 28 #[v] w fun e w' => e = .returned (.tuple #[.string (bs (encT T)), .int .i64 0]) ∧ Below w.heap.size w w' := by
  have ht := R6Good_any h
  rw [hT] at ht
  have HT := Lib.hid ht
  obtain ⟨a, cap, rfl, hml, hC⟩ := h.cells
  have h64 := (isTableB_ok hT).2
  have HC := Lib.hid hC
  have HTR := Lib.hid (fun k hk => table_rows hT k hk)
  have HFL := Lib.hid (encT_flat hT)
  have HB := Lib.hid (fun (n : Int) (hn : I64 n) (w' : World) => R1Int_any hn w')
  clear ht hT h hC
  go_enter Tryz.func28, Tryz.ntmps28
  go_wp2_with fail
  refine HT.out.mono ?_
  rintro e w1 ⟨rfl, hb1⟩
  go_wp2
  go_loopg [4, 5, 6, 7] T.length (fun gk s i _ _ wr => ∃ k : Nat, k ≤ T.length ∧ gk = T.length - k ∧ i = .int .i64 k ∧ s = .string (bs (108 :: (T.take k).flatMap encRow)) ∧ Below w.heap.size w wr)
  case atStart => exact ⟨0, Nat.zero_le _, rfl, rfl, rfl, hb1⟩
  case round =>
    obtain ⟨k, hk, rfl, rfl, rfl, hbel⟩ := hrel
    obtain ⟨wo, hwo⟩ : ∃ wo, wo = wr := ⟨_, rfl⟩
    subst hwo
    have hsz := hbel.size
    have hAl : (108 :: (T.take k).flatMap encRow).length ≤ 24321 := by
      have h1 := HFL.out
      have h2 : ((T.take k).flatMap encRow).length ≤ (T.flatMap encRow).length := by
        conv => rhs; rw [← List.take_append_drop k T, List.flatMap_append, List.length_append]
        omega
      rw [List.length_cons]; omega
    by_cases hlt : k < T.length
    · obtain ⟨b, off, sa, sc, rfl, hb, c0, c1, hsl⟩ := HC.out k hlt
      have c0 := below_some hbel c0 hb
      have c1 := below_some hbel c1 hb
      have hslr := hsl.below hbel
      have htk : (T.take (k + 1)).flatMap encRow = (T.take k).flatMap encRow ++ encRow (T[k].1, T[k].2) := by rw [List.take_succ_eq_append_getElem hlt, List.flatMap_append, List.flatMap_cons, List.flatMap_nil, List.append_nil]
      have HTK := Lib.hid htk
      obtain ⟨hp64, hs64, hl5⟩ := HTR.out k hlt
      clear htk hsl
      have i2 : (k : Int) < (T.length : Int) := by omega
      have i3 : (0 : Int) ≤ (k : Int) := by omega
      have HS := Lib.hid hs64
      clear hs64
      generalize T[k].1 = p at *
      generalize T[k].2 = l at *
      have hbw : b < wo.heap.size := by omega
      generalize hA : (108 :: (T.take k).flatMap encRow) = A at *
      have HA := Lib.hid hA
      clear hA
      have hpl := encI_le hp64
      have k1 : ¬ 9223372036854775807 < (bs A).size + 1 := by rw [bs_size]; omega
      have k2 : ¬ 9223372036854775807 < (bs A).size + 1 + (bs (encI p)).size := by rw [bs_size, bs_size]; omega
      go_wp2_with (first | (go_at_call 56; refine (HB.out p hp64 _).mono ?_; rintro e w4 ⟨rfl, hb4⟩; obtain ⟨hc4, hf4⟩ := bcell hb4; have hs4 := hb4.size))
      have HE1 : bs A ++ { data := #[108] } ++ bs (encI p) = bs (A ++ 108 :: (encI p ++ ([] : List Slot).flatMap encSlot)) := by
        rw [show (⟨#[108]⟩ : ByteArray) = bs [108] from rfl, bs_append, bs_append]; simp
      have hl5' : (l.length : Int) ≤ 5 := by omega
      go_loopg [4, 6, 7] l.length (fun gk s i _ wi => ∃ j : Nat, j ≤ l.length ∧ gk = l.length - j ∧ i = .int .i64 j ∧ s = .string (bs (A ++ 108 :: (encI p ++ (l.take j).flatMap encSlot))) ∧ Below wo.heap.size wo wi)
      case atStart => exact ⟨0, Nat.zero_le _, rfl, rfl, congrArg Value.string HE1, hb4⟩
      case round =>
        obtain ⟨j, hj, rfl, rfl, rfl, hbi⟩ := hrel
        have hsi := hbi.size
        clear HE1 hc4 hf4
        have hBl : (A ++ 108 :: (encI p ++ (l.take j).flatMap encSlot)).length ≤ 24321 + 1 + 23 + 355 := by
          have h2 := flat_bound encSlot 71 (l.take j) (fun x hx => encSlot_le (HS.out x (List.mem_of_mem_take hx)))
          have h3 : (l.take j).length * 71 ≤ 5 * 71 := Nat.mul_le_mul_right 71 (by rw [List.length_take]; omega)
          simp only [List.length_append, List.length_cons]; omega
        have d0 := below_some hbi c0 hbw
        have d1 := below_some hbi c1 hbw
        have hbwr : b < wr.heap.size := by omega
        by_cases hjt : j < l.length
        · obtain ⟨rb, ro, rcap, e, -, -, hrb, hrc⟩ := Rd.at hslr (by omega)
          simp only [Value.slice.injEq, true_and] at e
          obtain ⟨rfl, rfl⟩ := e
          obtain ⟨g0, g1, g2⟩ := rowCells_get l j hjt
          have r0 := below_some hbi (hrc _ _ g0) hrb
          have r1 := below_some hbi (hrc _ _ g1) hrb
          have r2 := below_some hbi (hrc _ _ g2) hrb
          rw [← Nat.add_assoc] at r1 r2
          have hrbi : rb < wr.heap.size := by omega
          have htj : (l.take (j + 1)).flatMap encSlot = (l.take j).flatMap encSlot ++ encSlot ⟨l[j].seq, l[j].base, l[j].fin⟩ := by rw [List.take_succ_eq_append_getElem hjt, List.flatMap_append, List.flatMap_cons, List.flatMap_nil, List.append_nil]
          have HTJ := Lib.hid htj
          obtain ⟨y64a, y64b, y64c⟩ := HS.out _ (List.getElem_mem hjt)
          clear htj hrc g0 g1 g2
          generalize l[j].seq = y0 at *
          generalize l[j].base = y1 at *
          generalize l[j].fin = y2 at *
          have j2 : (j : Int) < (l.length : Int) := by omega
          have j3 : (0 : Int) ≤ (j : Int) := by omega
          have l0 := encI_le y64a
          have l1 := encI_le y64b
          have l2 := encI_le y64c
          generalize hB' : (A ++ 108 :: (encI p ++ (l.take j).flatMap encSlot)) = B' at *
          have HBB := Lib.hid hB'
          clear hB'
          have q1 : ¬ 9223372036854775807 < (bs B').size + 1 := by rw [bs_size]; omega
          have q2 : ¬ 9223372036854775807 < (bs B').size + 1 + (bs (encI y0)).size := by rw [bs_size, bs_size]; omega
          have q3 : ¬ 9223372036854775807 < (bs B').size + 1 + (bs (encI y0)).size + (bs (encI y1)).size := by rw [bs_size, bs_size, bs_size]; omega
          have q4 : ¬ 9223372036854775807 < (bs B').size + 1 + (bs (encI y0)).size + (bs (encI y1)).size + (bs (encI y2)).size := by rw [bs_size, bs_size, bs_size, bs_size]; omega
          have q5 : ¬ 9223372036854775807 < (bs B').size + 1 + (bs (encI y0)).size + (bs (encI y1)).size + (bs (encI y2)).size + 1 := by rw [bs_size, bs_size, bs_size, bs_size]; omega
          go_wp2
          have hwy : ∀ w', Below (wr.heap.size + 1) (wr.alloc (.cells #[.int .i64 y0, .int .i64 y1, .int .i64 y2] 69)) w' → w'.cell? ⟨wr.heap.size, 0, none⟩ = some (.int .i64 y0) ∧ w'.cell? ⟨wr.heap.size, 1, none⟩ = some (.int .i64 y1) ∧ w'.cell? ⟨wr.heap.size, 2, none⟩ = some (.int .i64 y2) := by
            intro w' hb'
            exact ⟨below_some hb' (by simp [go_sem]) (by omega), below_some hb' (by simp [go_sem]) (by omega), below_some hb' (by simp [go_sem]) (by omega)⟩
          have HK := Lib.hid hwy
          have bi : ∀ n w', I64 n → Below (wr.heap.size + 1) (wr.alloc (.cells #[.int .i64 y0, .int .i64 y1, .int .i64 y2] 69)) w' → Calls Tryz.prog 56 #[.int .i64 n] w' fun e w2 => e = .returned (.string (bs (encI n))) ∧ Below (wr.heap.size + 1) (wr.alloc (.cells #[.int .i64 y0, .int .i64 y1, .int .i64 y2] 69)) w2 := by
            intro n w' hn hb'
            refine (HB.out n hn w').mono ?_
            rintro e w2 ⟨he, hb2⟩
            have hz := hb'.size
            simp only [World.size_alloc] at hz
            exact ⟨he, hb'.trans (hb2.mono hz)⟩
          have HBI := Lib.hid bi
          clear bi hwy
          go_region_held3 (fun w' => w'.cell? ⟨wr.heap.size, 0, none⟩ = some (.int .i64 y0) ∧ w'.cell? ⟨wr.heap.size, 1, none⟩ = some (.int .i64 y1) ∧ w'.cell? ⟨wr.heap.size, 2, none⟩ = some (.int .i64 y2))
            (first | with_reducible exact HK.out _ (Below.refl _ _) | with_reducible exact HK.out _ (Below.refl _ _).drew  | (have hg := hb5; first | with_reducible exact HK.out _ hb5 | with_reducible exact HK.out _ hb5.drew)  | (have hg := hb6; first | with_reducible exact HK.out _ hb6 | with_reducible exact HK.out _ hb6.drew)  | (have hg := hb7; first | with_reducible exact HK.out _ hb7 | with_reducible exact HK.out _ hb7.drew))
            (first
              | (go_at_call 56; have hg := hb6; refine (HBI.out _ _ (by assumption) hb6).mono ?_; rintro e w7 ⟨rfl, hb7⟩)
              | (go_at_call 56; have hg := hb5; refine (HBI.out _ _ (by assumption) hb5).mono ?_; rintro e w6 ⟨rfl, hb6⟩)
              | (go_at_call 56; refine (HBI.out _ _ (by assumption) ?_).mono ?_; (first | with_reducible exact Below.refl _ _ | with_reducible exact (Below.refl _ _).drew); rintro e w5 ⟨rfl, hb5⟩))
          have HE2 : bs B' ++ { data := #[108] } ++ bs (encI y0) ++ bs (encI y1) ++ bs (encI y2) ++ { data := #[101] } = bs (A ++ 108 :: (encI p ++ (l.take (j + 1)).flatMap encSlot)) := by
            rw [show (⟨#[108]⟩ : ByteArray) = bs [108] from rfl, show (⟨#[101]⟩ : ByteArray) = bs [101] from rfl, bs_append, bs_append, bs_append, bs_append, bs_append, HTJ.out, ← HBB.out]
            simp [encSlot]
          have hb09 : Below wo.heap.size wo w7 := hbi.trans (((below_alloc wr _).trans (hb7.mono (Nat.le_succ _))).mono hsi)
          have HFIN := Lib.hid (And.intro HE2 hb09)
          clear HE2 hb09 hb5 hb6 hb7
          go_wp2
          go_roundg (l.length - (j + 1))
          case measure => omega
          case rel => exact ⟨j + 1, by omega, rfl, by go_num, congrArg Value.string HFIN.out.1, HFIN.out.2⟩
        · have j2 : ¬ (j : Int) < (l.length : Int) := by omega
          have htj : l.take j = l := List.take_of_length_le (by omega)
          rw [htj] at hBl ⊢
          have e12 : A ++ 108 :: (encI p ++ l.flatMap encSlot) ++ [101] = 108 :: (T.take (k + 1)).flatMap encRow := by
            rw [HTK.out, ← HA.out]
            simp [encRow]
          have HE12 := Lib.hid e12
          clear htj e12
          generalize (A ++ 108 :: (encI p ++ l.flatMap encSlot)) = B' at *
          have q1 : ¬ 9223372036854775807 < (bs B').size + 1 := by rw [bs_size]; omega
          go_wp2
          have HE3 : bs B' ++ { data := #[101] } = bs (108 :: (T.take (k + 1)).flatMap encRow) := by
            rw [show (⟨#[101]⟩ : ByteArray) = bs [101] from rfl, bs_append, HE12.out]
          go_roundg (T.length - (k + 1))
          case measure => omega
          case rel => exact ⟨k + 1, by omega, rfl, by go_num, congrArg Value.string HE3, hbel.trans (hbi.mono hsz)⟩
    · have i2 : ¬ (k : Int) < (T.length : Int) := by omega
      have htk : T.take k = T := List.take_of_length_le (by omega)
      rw [htk] at hAl ⊢
      have e13 : (108 :: T.flatMap encRow) ++ [101] = encT T := by simp [encT]
      have HE13 := Lib.hid e13
      clear htk e13
      generalize (108 :: T.flatMap encRow) = A at *
      have q1 : ¬ 9223372036854775807 < (bs A).size + 1 := by rw [bs_size]; omega
      go_wp2
      have HE4 : bs A ++ { data := #[101] } = bs (encT T) := by
        rw [show (⟨#[101]⟩ : ByteArray) = bs [101] from rfl, bs_append, HE13.out]
      refine bodyPost_ret (v := .tuple #[.string (bs (encT T)), .int .i64 0]) ?_ rfl ⟨rfl, hbel⟩
      rw [← HE4]
      simp [results, Tryz.results28, go_sem]
end Go.Proofs.YtjkobbmdemooaaaGreatDoor
