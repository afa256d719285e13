/- The walk of crate.Encode. -/
import Derived.Test.YtcpaaleogmiamaaGreatDoorMp13
import Derived.Test.YtcpaaleogmiamaaGreatDoorMp17
import Derived.Test.YtcpaaleogmiamaaGreatDoorMp18
import Derived.Deep.RegionHeld3
import Derived.Deep.DeepCutAuto
import Derived.Deep.AppendLies
namespace Go.Proofs.YtcpaaleogmiamaaGreatDoor
open Go.RowKit

theorem Crflag_any (b : Bool) (w : World) : Calls Tryz.prog 181 #[.bool b] w fun e w' => e = .returned (.int .i64 (flagN b)) ∧ w' = w := by
  cases b
  all_goals
    go_enter Tryz.func181, Tryz.ntmps181
    go_wp2
    go_ret
    exact ⟨rfl, rfl⟩

def nums5 (b : Batch) : List Int := [b.base, b.count, b.prod, b.seq, b.time]
theorem encB_flat (b : Batch) : encB b = 108 :: (((nums5 b).map encI ++ b.recs.map encR).flatten ++ [101]) := by
  simp [encB, nums5, List.flatMap_def]
theorem GoodB.nums {b : Batch} (h : GoodB b) : ∀ n ∈ nums5 b, I64 n := by
  have h1 := h.base; have h2 := h.count; have h3 := h.prod; have h4 := h.seq; have h5 := h.time
  intro n hn
  simp only [nums5, List.mem_cons, List.not_mem_nil, or_false] at hn
  rcases hn with rfl | rfl | rfl | rfl | rfl <;> exact ⟨by omega, by omega⟩

/-- What stands in a new block stands behind a growth of an elder one. -/
theorem keepR {wr w8 w9 : World} {N : Nat} {cs : Array Value} {E : Nat} {o : Obj} {r : Option Nat} {y0 y1 y2 y3 : Value}
    (hK : ∀ w', Below (wr.heap.size + 1) (wr.alloc (.cells cs E)) w' → w'.cell? ⟨wr.heap.size, 0, none⟩ = some y0 ∧ w'.cell? ⟨wr.heap.size, 1, none⟩ = some y1 ∧ w'.cell? ⟨wr.heap.size, 2, none⟩ = some y2 ∧ w'.cell? ⟨wr.heap.size, 3, none⟩ = some y3)
    (hb : Below (wr.heap.size + 1) (wr.alloc (.cells cs E)) w8) (hg : (w8.alloc o).grownBy w9 r) (hr : ∀ g, r = some g → N ≤ g ∧ g < wr.heap.size) :
    w9.cell? ⟨wr.heap.size, 0, none⟩ = some y0 ∧ w9.cell? ⟨wr.heap.size, 1, none⟩ = some y1 ∧ w9.cell? ⟨wr.heap.size, 2, none⟩ = some y2 ∧ w9.cell? ⟨wr.heap.size, 3, none⟩ = some y3 := by
  have hz : wr.heap.size + 1 ≤ w8.heap.size := by have := hb.size; simpa using this
  obtain ⟨h0, h1, h2, h3⟩ := hK _ (hb.alloc hz o)
  have hn : ¬ some wr.heap.size = r := by
    intro e
    have := (hr _ e.symm).2
    omega
  exact ⟨upd_some (upd_grown hg) h0 hn, upd_some (upd_grown hg) h1 hn, upd_some (upd_grown hg) h2 hn, upd_some (upd_grown hg) h3 hn⟩

set_option maxRecDepth 100000 in
set_option maxHeartbeats 4000000 in
theorem CrEncode_yes {w : World} {rv : Value} {b : Batch} (h : RcsRd w rv b.recs) (hg : goodB b = true) (hE : Env w) :
    Calls Tryz.prog 144 #[b.v rv] w fun e w' => e = .returned (.tuple #[.string (bs (encB b)), .int .i64 0]) ∧ Below w.heap.size w w' := by
  have ht := fun W (hW : Below w.heap.size w W) => CrGood_any b rv W (Rd.below h hW)
  rw [hg] at ht
  have G := (goodB_iff b).1 hg
  have hlenB := encB_len hg
  rw [encB_flat] at hlenB
  have hfl := encB_flat b
  have hnum := G.nums
  have hrcs := G.recI
  have hl8 : b.recs.length ≤ 8 := by have := G.len; have := G.count; omega
  obtain ⟨a, cap, rfl, hca, hml, hC⟩ := h.cells
  have h5 : (nums5 b).length = 5 := rfl
  have hn5 : nums5 b = [b.base, b.count, b.prod, b.seq, b.time] := rfl
  obtain ⟨eB, heB⟩ : ∃ eB, encB b = eB := ⟨_, rfl⟩
  rw [heB] at hfl ⊢
  obtain ⟨nm, hnm⟩ : ∃ nm, nums5 b = nm := ⟨_, rfl⟩
  rw [hnm] at hfl hlenB hnum h5 hn5
  obtain ⟨bb, bc, bp, bsq, bt, rs⟩ := b
  simp only at hfl hlenB hrcs hl8 hC hn5 ht ⊢
  simp only [Batch.v] at ht ⊢
  have HT := Lib.hid ht
  have HC := Lib.hid hC
  have HF := Lib.hid (And.intro hfl hlenB)
  have HN := Lib.hid (And.intro hnum (And.intro h5 hn5))
  have HR := Lib.hid hrcs
  have bint : ∀ n w', I64 n → Below w.heap.size w w' → Calls Tryz.prog 176 #[.int .i64 n] w' fun e w1 => e = .returned (.string (bs (encI n))) ∧ Below w'.heap.size w' w1 :=
    fun n w' hn hb => BInt_any hn w' (hE.below hb)
  have btxt : ∀ t w', t.length ≤ 1000000 → Below w.heap.size w w' → Calls Tryz.prog 180 #[.string (bs t)] w' fun e w1 => e = .returned (.string (bs (encX t))) ∧ Below w'.heap.size w' w1 :=
    fun n w' hn hb => BText_any n hn w' (hE.below hb)
  have HB := Lib.hid bint
  have HX0 := Lib.hid btxt
  obtain ⟨i0, hi, hz0, hz1, hz2⟩ := info_parts info_String
  have hrl : (rs.length : Int) ≤ 8 := by omega
  clear ht G hlenB hfl hnum hrcs h hC hE bint btxt hg heB hnm h5 hn5 hml hca
  go_enter Tryz.func144, Tryz.ntmps144
  go_wp2_with fail
  refine (HT.out _ (below_alloc _ _)).mono ?_
  rintro e w1 ⟨rfl, hb1⟩
  obtain ⟨bx, hbx⟩ : ∃ bx, w.heap.size = bx := ⟨_, rfl⟩
  have hx : w1.heap[bx]? = some (.cells #[.int .i64 bb, .int .i64 bc, .int .i64 bp, .int .i64 bsq, .int .i64 bt, .slice a rs.length cap] 40 (0, 0)) := by
    rw [← hbx]
    exact (hb1.block _ (by simp)).trans (heap_alloc_new _ _)
  have hb01 : Below w.heap.size w w1 := (below_alloc w _).trans (hb1.mono (by simp))
  rw [hbx]
  have x0 := cells_of hx 0 _ rfl
  have x1 := cells_of hx 1 _ rfl
  have x2 := cells_of hx 2 _ rfl
  have x3 := cells_of hx 3 _ rfl
  have x4 := cells_of hx 4 _ rfl
  have HX := Lib.hid (And.intro hx hb01)
  clear hx hb01 hb1
  go_upto_region 5 with fail
  obtain ⟨w2, hw2⟩ : ∃ w2, w2 = w1.alloc (.cells #[.int .i64 bb, .int .i64 bc, .int .i64 bp, .int .i64 bsq, .int .i64 bt] 3) := ⟨_, rfl⟩
  obtain ⟨nb, hnb⟩ : ∃ nb, w1.heap.size = nb := ⟨_, rfl⟩
  have hnbx : w2.heap[nb]? = some (.cells #[.int .i64 bb, .int .i64 bc, .int .i64 bp, .int .i64 bsq, .int .i64 bt] 3 (0, 0)) := by rw [hw2, ← hnb]; exact heap_alloc_new _ _
  have hsz2 : w2.heap.size = nb + 1 := by rw [hw2, World.size_alloc, hnb]
  have hb2 : Below w.heap.size w w2 := by rw [hw2]; exact HX.out.2.alloc HX.out.2.size _
  have hx2 : w2.heap[bx]? = some (.cells #[.int .i64 bb, .int .i64 bc, .int .i64 bp, .int .i64 bsq, .int .i64 bt, .slice a rs.length cap] 40 (0, 0)) := by
    rw [hw2]
    exact ((below_alloc w1 _).block _ (Array.getElem?_eq_some_iff.1 HX.out.1).1).trans HX.out.1
  have hnk : ∀ (k : Nat) (hk : k < 5) (W : World), Below w2.heap.size w2 W → W.cell? ⟨nb, k, none⟩ = some (.int .i64 (nm[k]'(by rw [HN.out.2.1]; exact hk))) := by
    intro k hk W hW
    have h1 := (hW.block nb (by omega)).trans hnbx
    have e := HN.out.2.2
    match k, hk with
    | 0, _ => simp only [e]; exact cells_of h1 0 _ rfl
    | 1, _ => simp only [e]; exact cells_of h1 1 _ rfl
    | 2, _ => simp only [e]; exact cells_of h1 2 _ rfl
    | 3, _ => simp only [e]; exact cells_of h1 3 _ rfl
    | 4, _ => simp only [e]; exact cells_of h1 4 _ rfl
  rw [← hw2, hnb]
  have HNK := Lib.hid hnk
  have H2 := Lib.hid (And.intro hb2 (And.intro hx2 hsz2))
  have HS1 := Lib.hid hnb
  clear hw2 hnb hnbx hsz2 hb2 hx2 hnk x0 x1 x2 x3 x4
  go_wp2
  go_loopg [4, 24] 5 (fun gk out i wr => ∃ k : Nat, k ≤ 5 ∧ gk = 5 - k ∧ i = .int .i64 k ∧ wr.ownsRow w2.heap.size 9 1 out k (strCells ((nm.take k).map encI)) ∧ Below w2.heap.size w2 wr)
  case atStart => exact ⟨0, Nat.zero_le _, rfl, rfl, World.ownsRow_nil _ _ _ _, Below.refl _ _⟩
  case round =>
    obtain ⟨k, hk, rfl, rfl, hown, hbel⟩ := hrel
    have HO := Lib.hid hown
    have HBL := Lib.hid hbel
    by_cases hlt : k < 5
    · have c0 := HNK.out k hlt wr hbel
      have hsz := hbel.size
      have hkn : k < nm.length := by rw [HN.out.2.1]; exact hlt
      have hni := HN.out.1 _ (List.getElem_mem hkn)
      have htk : nm.take (k + 1) = nm.take k ++ [nm[k]] := by rw [List.take_succ_eq_append_getElem hkn]
      generalize nm[k] = n at *
      have HTK := Lib.hid htk
      have hbn := HB.out n wr hni (H2.out.1.trans (hbel.mono H2.out.1.size))
      have HBN := Lib.hid hbn
      have i2 : (k : Int) < 5 := by omega
      have i3 : (0 : Int) ≤ (k : Int) := by omega
      clear hown hbel hni htk hbn
      go_wp2_with fail
      refine HBN.out.mono ?_
      rintro e w5 ⟨rfl, hb5⟩
      have hz5 := hb5.size
      go_wp2_with (first
        | (at_builtin; refine wpList_append_lies _ rfl _ _ 106 rfl w2.heap.size 9 i0 _ 1 16 und_Strings hi hz0 hz1 hz2 rfl (by decide) u4 k (strCells ((nm.take k).map encI)) rfl ((owns_upd HO.out (Upd.of_below (F := fun _ => False) hb5) (fun _ _ h => h)).alloc _) ⟨w5.heap.size, 0, none⟩ 1 1 [.string (bs (encI n))] rfl rfl (World.news_of_block (cs := #[.string (bs (encI n))]) (t := 9) (fr := (0, 0)) (heap_alloc_new w5 _)) (by simp [Value.oneCell']) (by decide) ?_ ?_ ?_ _ rfl ?_; (unfold maxLen; omega); omega; (have := hb5.size; simp only [World.size_alloc]; omega); intro g6 gcap6 w6 hown6 hgrow6 hat6 hlt6; have hb6 : Below w2.heap.size w2 w6 := (((HBL.out.trans (hb5.mono hsz)).alloc (by have := hb5.size; omega) _).grown hgrow6 (by have := hb5.size; simp only [World.size_alloc]; omega) (fun k e => (owns_lt HO.out k e).1)); have D := Lib.hid (And.intro hown6 hb6); clear hown6 hgrow6 hat6 hlt6 hb6))
      obtain ⟨hown6, hb6⟩ := D.out
      have e11 : strCells ((nm.take k).map encI) ++ [.string (bs (encI n))] = strCells ((nm.take (k + 1)).map encI) := by rw [HTK.out]; simp [strCells]
      rw [e11] at hown6
      have HFIN := Lib.hid (And.intro hown6 hb6)
      clear hown6 hb6 e11 D
      go_roundg (5 - (k + 1))
      case measure => omega
      case rel => exact ⟨k + 1, by omega, rfl, by go_num, HFIN.out.1, HFIN.out.2⟩
    · have i2 : ¬ (k : Int) < 5 := by omega
      obtain rfl : k = 5 := by omega
      have hx3 := (hbel.block bx (Array.getElem?_eq_some_iff.1 H2.out.2.1).1).trans H2.out.2.1
      have x5 := cells_of hx3 5 _ rfl
      have htk : nm.take 5 = nm := List.take_of_length_le (by rw [HN.out.2.1]; exact Nat.le_refl _)
      have hO5 := HO.out
      rw [htk] at hO5
      have HO5 := Lib.hid hO5
      obtain ⟨w3, hw3⟩ : ∃ w3, w3 = wr := ⟨_, rfl⟩
      rw [← hw3] at HO5 HBL x5
      rw [← hw3]
      clear hown hbel hx3 htk hO5 hw3 HO hlt hk
      go_wp2
      go_loopg [4, 37] rs.length (fun gk out i wr => ∃ k : Nat, k ≤ rs.length ∧ gk = rs.length - k ∧ i = .int .i64 k ∧ wr.ownsRow w2.heap.size 9 1 out (5 + k) (strCells (nm.map encI ++ (rs.take k).map encR)) ∧ Below w2.heap.size w2 wr)
      case atStart => exact ⟨0, Nat.zero_le _, rfl, rfl, by simpa using HO5.out, HBL.out⟩
      case round =>
        obtain ⟨j, hj, rfl, rfl, hrown, hbi⟩ := hrel
        have HY := Lib.hid hrown
        have HBI2 := Lib.hid hbi
        have hsi := hbi.size
        have hbw : Below w.heap.size w wr := H2.out.1.trans (hbi.mono H2.out.1.size)
        by_cases hjt : j < rs.length
        · obtain ⟨rb, ro, rfl, hrb, d0, d1, d2, d3⟩ := HC.out j hjt
          have d0 := below_some hbw d0 hrb
          have d1 := below_some hbw d1 hrb
          have d2 := below_some hbw d2 hrb
          have d3 := below_some hbw d3 hrb
          have hRI := HR.out _ (List.getElem_mem hjt)
          have htj : rs.take (j + 1) = rs.take j ++ [rs[j]] := by rw [List.take_succ_eq_append_getElem hjt]
          generalize rs[j] = y at *
          obtain ⟨yo, yk, yv, yg⟩ := y
          obtain ⟨r1, r2, r3⟩ := hRI
          simp only at r1 r2 r3 d0 d1 d2 d3
          obtain ⟨yk, rfl⟩ : ∃ l, yk = bs l := ⟨_, (bs_of yk).symm⟩
          obtain ⟨yv, rfl⟩ : ∃ l, yv = bs l := ⟨_, (bs_of yv).symm⟩
          simp only [Rec.kB, Rec.vB, bs_data] at r2 r3
          have HTJ := Lib.hid htj
          have hrbi : rb < wr.heap.size := by have := hbw.size; omega
          have j2 : (j : Int) < (rs.length : Int) := by omega
          have j3 : (0 : Int) ≤ (j : Int) := by omega
          have HBW := Lib.hid hbw
          clear hrown hbi hbw htj
          go_wp2
          have hwy : ∀ w', Below (wr.heap.size + 1) (wr.alloc (.cells #[.int .i64 yo, .string (bs yk), .string (bs yv), .bool yg] 84)) w' → w'.cell? ⟨wr.heap.size, 0, none⟩ = some (.int .i64 yo) ∧ w'.cell? ⟨wr.heap.size, 1, none⟩ = some (.string (bs yk)) ∧ w'.cell? ⟨wr.heap.size, 2, none⟩ = some (.string (bs yv)) ∧ w'.cell? ⟨wr.heap.size, 3, none⟩ = some (.bool yg) := by
            intro w' hb'
            exact ⟨below_some hb' (by simp [go_sem]) (by omega), below_some hb' (by simp [go_sem]) (by omega), below_some hb' (by simp [go_sem]) (by omega), below_some hb' (by simp [go_sem]) (by omega)⟩
          have HK := Lib.hid hwy
          have hbwi : Below w.heap.size w (wr.alloc (.cells #[.int .i64 yo, .string (bs yk), .string (bs yv), .bool yg] 84)) := below_trans HBW.out (below_alloc wr _)
          have hsz2 : w.heap.size ≤ wr.heap.size + 1 := by have := HBW.out.size; omega
          have bi : ∀ n w', I64 n → Below (wr.heap.size + 1) (wr.alloc (.cells #[.int .i64 yo, .string (bs yk), .string (bs yv), .bool yg] 84)) w' → Calls Tryz.prog 176 #[.int .i64 n] w' fun e w2 => e = .returned (.string (bs (encI n))) ∧ Below (wr.heap.size + 1) (wr.alloc (.cells #[.int .i64 yo, .string (bs yk), .string (bs yv), .bool yg] 84)) w2 := by
            intro n w' hn hb'
            refine (HB.out n w' hn (hbwi.trans (hb'.mono hsz2))).mono ?_
            rintro e w2 ⟨he, hb2⟩
            have hz := hb'.size
            simp only [World.size_alloc] at hz
            exact ⟨he, hb'.trans (hb2.mono hz)⟩
          have bx2 : ∀ t w', t.length ≤ 64 → Below (wr.heap.size + 1) (wr.alloc (.cells #[.int .i64 yo, .string (bs yk), .string (bs yv), .bool yg] 84)) w' → Calls Tryz.prog 180 #[.string (bs t)] w' fun e w2 => e = .returned (.string (bs (encX t))) ∧ Below (wr.heap.size + 1) (wr.alloc (.cells #[.int .i64 yo, .string (bs yk), .string (bs yv), .bool yg] 84)) w2 := by
            intro n w' hn hb'
            refine (HX0.out n w' (by omega) (hbwi.trans (hb'.mono hsz2))).mono ?_
            rintro e w2 ⟨he, hb2⟩
            have hz := hb'.size
            simp only [World.size_alloc] at hz
            exact ⟨he, hb'.trans (hb2.mono hz)⟩
          have bl : ∀ w', Below (wr.heap.size + 1) (wr.alloc (.cells #[.int .i64 yo, .string (bs yk), .string (bs yv), .bool yg] 84)) w' → Calls Tryz.prog 175 #[.slice (some ⟨w'.heap.size, 0, none⟩) 4 4] (w'.alloc (.cells #[.string (bs (encI yo)), .string (bs (encX yk)), .string (bs (encX yv)), .string (bs (encI (flagN yg)))] 9)) fun e w2 => e = .returned (.string (bs (encR ⟨yo, bs yk, bs yv, yg⟩))) ∧ Below (wr.heap.size + 1) (wr.alloc (.cells #[.int .i64 yo, .string (bs yk), .string (bs yv), .bool yg] 84)) w2 := by
            intro w' hb'
            have l0 := encI_len r1
            have l1 := encX_len (t := yk) (by omega)
            have l2 := encX_len (t := yv) (by omega)
            have l3 := encI_len (i64_flag yg)
            refine (BList_any (xs := [encI yo, encX yk, encX yv, encI (flagN yg)]) (strs_of_owns (strs_made (w := w') [encI yo, encX yk, encX yv, encI (flagN yg)] (by simp)) rfl) (by simp) (by simp; omega)).mono ?_
            rintro e w2 ⟨rfl, hb2⟩
            have hz := hb'.size
            simp only [World.size_alloc] at hz
            exact ⟨by simp [encR, Rec.kB, Rec.vB, bs_data], hb'.trans ((below_alloc w' _).mono hz |>.trans (hb2.mono (by simp; omega)))⟩
          have HBI := Lib.hid bi
          have HBX := Lib.hid bx2
          have HBL2 := Lib.hid bl
          have r2' : yk.length ≤ 64 := by omega
          have r4 := i64_flag yg
          clear bi bl hwy bx2
          go_region_held3 (fun w' => w'.cell? ⟨wr.heap.size, 0, none⟩ = some (.int .i64 yo) ∧ w'.cell? ⟨wr.heap.size, 1, none⟩ = some (.string (bs yk)) ∧ w'.cell? ⟨wr.heap.size, 2, none⟩ = some (.string (bs yv)) ∧ w'.cell? ⟨wr.heap.size, 3, none⟩ = some (.bool yg))
            (first | with_reducible exact HK.out _ (Below.refl _ _) | with_reducible exact HK.out _ (Below.refl _ _).drew  | (have hg := hb5; first | with_reducible exact HK.out _ hb5 | with_reducible exact HK.out _ hb5.drew)  | (have hg := hb6; first | with_reducible exact HK.out _ hb6 | with_reducible exact HK.out _ hb6.drew)  | (have hg := hb7; first | with_reducible exact HK.out _ hb7 | with_reducible exact HK.out _ hb7.drew)  | (have hg := hb8; first | with_reducible exact HK.out _ hb8 | with_reducible exact HK.out _ hb8.drew | with_reducible exact HK.out _ (hb8.alloc hz8 _))  | (have hg := hb9; first | with_reducible exact HK.out _ hb9 | with_reducible exact HK.out _ hb9.drew | with_reducible exact HK.out _ (hb9.alloc hz9 _))  | (have hg := hk10; first | with_reducible exact hk10))
            (first
              | (go_at_call 176; have hg := hb7; refine (HBI.out _ _ (by assumption) hb7).mono ?_; rintro e w8 ⟨rfl, hb8⟩; have hz8 : wr.heap.size + 1 ≤ w8.heap.size := (by have := hb8.size; simpa using this))
              | (go_at_call 180; have hg := hb6; refine (HBX.out _ _ (by assumption) hb6).mono ?_; rintro e w7 ⟨rfl, hb7⟩)
              | (go_at_call 180; have hg := hb5; refine (HBX.out _ _ (by assumption) hb5).mono ?_; rintro e w6 ⟨rfl, hb6⟩)
              | (go_at_call 176; refine (HBI.out _ _ (by assumption) ?_).mono ?_; (first | with_reducible exact Below.refl _ _ | with_reducible exact (Below.refl _ _).drew); rintro e w5 ⟨rfl, hb5⟩)
              | (go_at_call 181; refine (Crflag_any _ _).mono ?_; rintro e w71 ⟨rfl, rfl⟩)
              | (go_at_call 175; refine (HBL2.out _ hb8).mono ?_; rintro e w9 ⟨rfl, hb9⟩; have hz9 : wr.heap.size + 1 ≤ w9.heap.size := (by have := hb9.size; simpa using this))
              | (refine step_append_lies _ (by rfl) _ _ _ (by rfl) w2.heap.size 9 i0 _ 1 16 und_Strings hi hz0 hz1 hz2 rfl (by omega) u4 (5 + j) (strCells (nm.map encI ++ (rs.take j).map encR)) (by rfl) ((owns_upd HY.out (Upd.of_below (F := fun _ => False) ((below_alloc wr _).trans (hb9.mono (Nat.le_succ _)))) (fun _ _ h => h)).alloc _) ⟨w9.heap.size, 0, none⟩ 1 1 [.string (bs (encR ⟨yo, bs yk, bs yv, yg⟩))] (by rfl) (by rfl) (World.news_of_block (cs := #[.string (bs (encR ⟨yo, bs yk, bs yv, yg⟩))]) (t := 9) (fr := (0, 0)) (heap_alloc_new w9 _)) (by simp [Value.oneCell']) (by omega) ?_ ?_ ?_ _ rfl ?_; (unfold maxLen; omega); omega; (simp only [World.size_alloc]; omega); rintro g10 gcap10 w10 hown10 hgrow10 - hlt10; have hk10 := keepR HK.out hb9 hgrow10 (owns_lt HY.out)))
          have hbw9 : Below w2.heap.size wr w9 := ((below_alloc wr _).trans (hb9.mono (Nat.le_succ _))).mono hsi
          have hb10 : Below w2.heap.size w2 w10 := ((HBI2.out.trans hbw9).alloc (by omega) _).grown hgrow10 (by simp only [World.size_alloc]; omega) (fun k e => (owns_lt HY.out k e).1)
          have e9 : strCells (nm.map encI ++ (rs.take j).map encR) ++ [.string (bs (encR ⟨yo, bs yk, bs yv, yg⟩))] = strCells (nm.map encI ++ (rs.take (j + 1)).map encR) := by rw [HTJ.out]; simp [strCells]
          rw [e9] at hown10
          have HFIN := Lib.hid (And.intro hown10 hb10)
          clear hown10 hb10 hgrow10 hlt10 e9 hk10 hb9 hb8 hb7 hb6 hb5 hbw9
          go_wp2
          go_roundg (rs.length - (j + 1))
          case measure => omega
          case rel => exact ⟨j + 1, by omega, rfl, by go_num, HFIN.out.1, HFIN.out.2⟩
        · have j2 : ¬ (j : Int) < (rs.length : Int) := by omega
          have htj : rs.take j = rs := List.take_of_length_le (by omega)
          obtain rfl : j = rs.length := by omega
          have hrow := HY.out
          rw [htj] at hrow
          have hS := strs_of_owns hrow (by rw [List.length_append, List.length_map, List.length_map, HN.out.2.1])
          have hfl : (nm.map encI ++ rs.map encR).flatten.length ≤ 2000 := by
            have := HF.out.2
            simp only [List.length_cons, List.length_append] at this ⊢
            omega
          have hBR := BList_any hS (by rw [List.length_append, List.length_map, List.length_map, HN.out.2.1]; omega) (by omega)
          rw [← HF.out.1] at hBR
          have HBR := Lib.hid hBR
          have e55 : (nm.map encI ++ rs.map encR).length = 5 + rs.length := by rw [List.length_append, List.length_map, List.length_map, HN.out.2.1]
          have HBW := Lib.hid hbw
          clear hrow hS hfl hBR htj hrown hbi hbw
          go_wp2_with (first | (go_at_call 175; refine HBR.out.mono ?_; rintro e w5 ⟨rfl, hb5⟩))
          exact bodyPost_ret (v := .tuple #[.string (bs eB), .int .i64 0]) (by simp [results, Tryz.results144, go_sem]) rfl ⟨rfl, below_trans HBW.out hb5⟩
end Go.Proofs.YtcpaaleogmiamaaGreatDoor
