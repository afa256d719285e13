/- The walk of the reference's Good of layer 12. -/
import Derived.Test.YtjkobbmdemooaaaGreatDoorPx18
import Derived.Test.YtjkobbmdemooaaaGreatDoorPx33
namespace Go.Proofs.YtjkobbmdemooaaaGreatDoor
open Go.RowKit

theorem IntsRd.take {w : World} {a : Option Addr} {cap : Nat} {l : List Int} (h : IntsRd w (.slice a l.length cap) l) (k : Nat) (hk : k ≤ l.length) : IntsRd w (.slice a k cap) (l.take k) := by
  have hlen : (l.take k).length = k := by simp; omega
  refine ⟨by rw [intCells_length], ?_⟩
  rw [hlen]
  rcases h.2 with ⟨e, h0⟩ | ⟨a', cap', e, h1, h2, h3⟩
  · simp only [Value.slice.injEq] at e
    obtain ⟨rfl, -, rfl⟩ := e
    have : k = 0 := by omega
    subst this
    exact .inl ⟨rfl, rfl⟩
  · simp only [Value.slice.injEq] at e
    obtain ⟨rfl, -, rfl⟩ := e
    refine .inr ⟨a', cap, rfl, by omega, h2, fun j u hj => h3 j u ?_⟩
    unfold intCells at hj ⊢
    rw [List.map_take, List.getElem?_take] at hj
    split at hj
    · exact hj
    · cases hj

/-- What the reference asks of a place, but of its chain's nodes. -/
def placeT (y : Pt) (nodes : Int) : Bool := inB y.epoch 1 1073741824 && (decide (0 < y.chain.length) && (inB y.learner 0 nodes && !y.chain.contains y.learner))

theorem placeT_iff {y : Pt} {nodes : Int} : placeT y nodes = true ↔ (1 ≤ y.epoch ∧ y.epoch ≤ 1073741824) ∧ 0 < y.chain.length ∧ (0 ≤ y.learner ∧ y.learner ≤ nodes) ∧ y.learner ∉ y.chain := by
  simp [placeT, inB_iff]
theorem isPlaceB_of {y : Pt} {nodes : Int} (h1 : placeT y nodes = true) (h2 : ∀ n ∈ y.chain, 1 ≤ n ∧ n ≤ nodes) (h3 : y.chain.Nodup) : isPlaceB y nodes = true := by
  obtain ⟨a, b, c, d⟩ := placeT_iff.1 h1
  exact isPlaceB_iff.2 ⟨h2, h3, a, b, c, d⟩
theorem isPlaceB_to {y : Pt} {nodes : Int} (h : isPlaceB y nodes = true) : placeT y nodes = true ∧ (∀ n ∈ y.chain, 1 ≤ n ∧ n ≤ nodes) ∧ y.chain.Nodup := by
  obtain ⟨a, b, c, d, e, f⟩ := isPlaceB_iff.1 h
  exact ⟨placeT_iff.2 ⟨c, d, e, f⟩, a, b⟩
theorem isPlaceB_no {y : Pt} {nodes : Int} (h : ¬ (placeT y nodes = true ∧ (∀ n ∈ y.chain, 1 ≤ n ∧ n ≤ nodes) ∧ y.chain.Nodup)) : isPlaceB y nodes = false := by
  cases hb : isPlaceB y nodes
  · rfl
  · exact absurd (isPlaceB_to hb) h

set_option maxRecDepth 100000 in
set_option maxHeartbeats 8000000 in
theorem R12Good_any {w : World} {v : Value} {p : Pl} (h : PlanRd w v p) : Calls Tryz.prog 16 #[v] w fun e w' => e = .returned (.bool (goodP p)) ∧ Below w.heap.size w w' := by
  obtain ⟨pv, lv, rfl, hp, hl⟩ := h
  obtain ⟨nodes, copies, P, L⟩ := p
  simp only at hp hl ⊢
  obtain ⟨pa, pc, rfl, -, hpm, hP⟩ := hp.cells
  obtain ⟨la, lc, rfl, -, hlm, hL⟩ := hl.cells
  have hpm' : (P.length : Int) ≤ 9223372036854775807 := by have : maxLen = 9223372036854775807 := rfl; omega
  have hlm' : (L.length : Int) ≤ 9223372036854775807 := by have : maxLen = 9223372036854775807 := rfl; omega
  have HP := Lib.hid hP
  have HL := Lib.hid hL
  obtain ⟨R, hR⟩ : ∃ R, goodP ⟨nodes, copies, P, L⟩ = R := ⟨_, rfl⟩
  rw [hR]
  unfold goodP at hR
  simp only at hR
  obtain ⟨T, hT⟩ : ∃ T, (inB nodes 1 5 && (inB copies 1 nodes && inB P.length 2 4)) = T := ⟨_, rfl⟩
  have hR2 : R = (T && (P.all (isPlaceB · nodes) && (L.all (lifeOk nodes) && decide (Rising L)))) := by rw [← hR, ← hT]; simp only [Bool.and_assoc]
  have HR := Lib.hid hR2
  have HT := Lib.hid hT
  obtain ⟨wa, hwa⟩ : ∃ wa, wa = w.alloc (.cells #[.int .i64 nodes, .int .i64 copies, .slice pa P.length pc, .slice la L.length lc] 25) := ⟨_, rfl⟩
  have hb1 : Below w.heap.size w wa := by rw [hwa]; exact below_alloc _ _
  have hx : wa.heap[w.heap.size]? = some (.cells #[.int .i64 nodes, .int .i64 copies, .slice pa P.length pc, .slice la L.length lc] 25 (0, 0)) := by rw [hwa]; exact heap_alloc_new _ _
  have x0 := cells_of hx 0 _ rfl
  have x1 := cells_of hx 1 _ rfl
  have x2 := cells_of hx 2 _ rfl
  have HA := Lib.hid (And.intro hb1 hx)
  clear hp hl hP hL hpm hlm hR hT hR2 hb1 hx
  go_enter Tryz.func16, Tryz.ntmps16
  go_upto_region 1 with fail
  rw [← hwa]
  clear hwa
  go_cut [39] from 8 to 39 (fun v wx => v = .bool (!T) ∧ wx = wa)
  case first =>
    by_cases a1 : nodes < 1
    · go_wp2
      go_meet
      exact ⟨by rw [← HT.out]; simp [inB]; omega, rfl⟩
    by_cases a2 : 5 < nodes
    · go_wp2
      go_meet
      exact ⟨by rw [← HT.out]; simp [inB]; omega, rfl⟩
    by_cases a3 : copies < 1
    · go_wp2
      go_meet
      exact ⟨by rw [← HT.out]; simp [inB]; omega, rfl⟩
    by_cases a4 : nodes < copies
    · go_wp2
      go_meet
      exact ⟨by rw [← HT.out]; simp [inB]; omega, rfl⟩
    by_cases a5 : (P.length : Int) < 2
    · go_wp2
      go_meet
      exact ⟨by rw [← HT.out]; simp [inB]; omega, rfl⟩
    by_cases a6 : 4 < (P.length : Int)
    · go_wp2
      go_meet
      exact ⟨by rw [← HT.out]; simp [inB]; omega, rfl⟩
    go_wp2
    go_meet
    exact ⟨by rw [← HT.out]; simp [inB]; omega, rfl⟩
  case rest =>
  obtain ⟨rfl, hwc⟩ := hcut
  subst hwc
  cases T
  · have hRf : R = false := by rw [HR.out]; rfl
    subst hRf
    go_wp2
    exact bodyPost_ret (v := .bool false) (by simp [results, Tryz.results16, go_sem]) rfl ⟨rfl, HA.out.1⟩
  clear x0 x1
  go_wp2
  go_loopg [3] P.length (fun gk i wr => ∃ k : Nat, k ≤ P.length ∧ gk = P.length - k ∧ i = .int .i64 k ∧ (P.take k).all (isPlaceB · nodes) = true ∧ wr.heap[w.heap.size]? = some (.cells #[.int .i64 nodes, .int .i64 copies, .slice pa P.length pc, .slice la L.length lc] 25 (0, 0)) ∧ Below w.heap.size w wr)
  case atStart => exact ⟨0, Nat.zero_le _, rfl, rfl, rfl, HA.out.2, HA.out.1⟩
  case round =>
  clear x2
  obtain ⟨k, hk, rfl, rfl, hall, hx, hbel⟩ := hrel
  have HX := Lib.hid (And.intro hall (And.intro hx hbel))
  have hsz := hbel.size
  have hxlt : w.heap.size < wr.heap.size := (Array.getElem?_eq_some_iff.1 hx).1
  have hx2 := cells_of hx 2 _ rfl
  by_cases hlt : k < P.length
  · obtain ⟨b, off, ca, cc, rfl, hb, c0, c1, c2, hch⟩ := HP.out k hlt
    have c0 := below_some hbel c0 hb
    have c1 := below_some hbel c1 hb
    have c2 := below_some hbel c2 hb
    have i1 : (k : Int) < (P.length : Int) := by omega
    have i2 : (0 : Int) ≤ (k : Int) := by omega
    have htk : P.take (k + 1) = P.take k ++ [P[k]] := by rw [List.take_succ_eq_append_getElem hlt]
    have hmem : P[k] ∈ P := List.getElem_mem hlt
    have hno : isPlaceB P[k] nodes = false → R = false := by
      intro h
      rw [HR.out]
      have : P.all (isPlaceB · nodes) = false := by
        rw [List.all_eq_false]
        exact ⟨_, hmem, by simp [h]⟩
      simp [this]
    have hyes : isPlaceB P[k] nodes = true → (P.take (k + 1)).all (isPlaceB · nodes) = true := by
      intro h
      rw [htk, List.all_append, hall]
      simp [h]
    have hchr := hch.below hbel
    have HNY := Lib.hid (And.intro hno hyes)
    have HCH := Lib.hid hchr
    clear htk hmem hno hyes hch hchr hall
    obtain ⟨y, hy⟩ : ∃ y, P[k] = y := ⟨_, rfl⟩
    rw [hy] at HNY HCH c0 c1 c2
    clear hy
    obtain ⟨ep, ch, le⟩ := y
    simp only at HNY HCH c0 c1 c2
    obtain ⟨_, _, -, hcc, hcm, -⟩ := HCH.out.cells
    have hcm' : (ch.length : Int) ≤ 9223372036854775807 := by have : maxLen = 9223372036854775807 := rfl; omega
    go_upto_region 7 with fail
    obtain ⟨wp, hwp⟩ : ∃ wp, wp = wr.alloc (.cells #[.int .i64 ep, .slice ca ch.length cc, .int .i64 le] 74) := ⟨_, rfl⟩
    have hbp : Below wr.heap.size wr wp := by rw [hwp]; exact below_alloc _ _
    have hxp : wp.heap[wr.heap.size]? = some (.cells #[.int .i64 ep, .slice ca ch.length cc, .int .i64 le] 74 (0, 0)) := by rw [hwp]; exact heap_alloc_new _ _
    rw [← hwp]
    have hplan := (hbp.block w.heap.size hxlt).trans hx
    have hkeep : ∀ W, Below wp.heap.size wp W → W.heap[w.heap.size]? = some (.cells #[.int .i64 nodes, .int .i64 copies, (.slice (some ⟨b, off, none⟩) P.length pc), .slice la L.length lc] 25 (0, 0)) ∧ W.cell? ⟨w.heap.size, 0, none⟩ = some (.int .i64 nodes) ∧ W.cell? ⟨wr.heap.size, 1, none⟩ = some (.slice ca ch.length cc) ∧ Below w.heap.size w W := by
      intro W hW
      have h1 := (hW.block _ (Array.getElem?_eq_some_iff.1 hplan).1).trans hplan
      have h2 := (hW.block _ (Array.getElem?_eq_some_iff.1 hxp).1).trans hxp
      exact ⟨h1, cells_of h1 0 _ rfl, cells_of h2 1 _ rfl, hbel.trans ((hbp.trans (hW.mono hbp.size)).mono hsz)⟩
    have d0 := cells_of hxp 0 _ rfl
    have d1 := cells_of hxp 1 _ rfl
    have d2 := cells_of hxp 2 _ rfl
    have e0 := cells_of hplan 0 _ rfl
    have HK := Lib.hid hkeep
    have HCP := Lib.hid (HCH.out.below hbp)
    obtain ⟨Y, hY⟩ : ∃ Y, placeT ⟨ep, ch, le⟩ nodes = Y := ⟨_, rfl⟩
    have HTY0 := Lib.hid hY
    clear hwp hbp hxp hplan hkeep hx hx2 c0 c1 c2 hY hcc hcm hbel
    go_cut [81] from 40 to 109 (fun v wx => v = .bool (!Y) ∧ wx = wp)
    case first =>
      have W1 := Lib.hid (fun W => R12num_any ep W)
      have W2 := Lib.hid (fun W => R12node_any le nodes W)
      have W3 := Lib.hid (has_any HCP.out le)
      obtain ⟨b1, h1⟩ : ∃ b, inB ep 1 1073741824 = b := ⟨_, rfl⟩
      obtain ⟨b2, h2⟩ : ∃ b, inB le 1 nodes = b := ⟨_, rfl⟩
      obtain ⟨b3, h3⟩ : ∃ b, ch.contains le = b := ⟨_, rfl⟩
      have hle : inB le 0 nodes = (decide (le = 0 ∧ 0 ≤ nodes) || b2) := by
        rw [← h2, Bool.eq_iff_iff]; simp [inB]; omega
      have hn0 : 0 ≤ nodes := by
        have := HT.out
        simp [inB] at this
        omega
      have hty : Y = (b1 && (decide (0 < ch.length) && ((decide (le = 0) || b2) && !b3))) := by
        rw [← HTY0.out]
        unfold placeT
        simp only
        rw [h1, h3, hle]
        simp [hn0]
      have HTY := Lib.hid hty
      have H1 := Lib.hid h1
      have H2 := Lib.hid h2
      have H3 := Lib.hid h3
      clear h1 h2 h3 hle hn0 hty
      cases b1
      · go_wp2_with (first | (go_at_call 50; with_reducible refine (W1.out _).mono ?_; rintro e w1 ⟨rfl, rfl⟩; rw [H1.out]) | (go_at_call 51; with_reducible refine (W2.out _).mono ?_; rintro e w1 ⟨rfl, rfl⟩; rw [H2.out]) | (go_at_call 43; with_reducible refine W3.out.mono ?_; rintro e w1 ⟨rfl, rfl⟩; rw [H3.out]))
        go_meet
        exact ⟨by rw [HTY.out]; simp [] <;> omega, rfl⟩
      by_cases l0 : ch.length < 1
      · have l1 : (ch.length : Int) < 1 := by omega
        have L2 := Lib.hid (show decide (0 < ch.length) = false from decide_eq_false (by omega))
        go_wp2_with (first | (go_at_call 50; with_reducible refine (W1.out _).mono ?_; rintro e w1 ⟨rfl, rfl⟩; rw [H1.out]) | (go_at_call 51; with_reducible refine (W2.out _).mono ?_; rintro e w1 ⟨rfl, rfl⟩; rw [H2.out]) | (go_at_call 43; with_reducible refine W3.out.mono ?_; rintro e w1 ⟨rfl, rfl⟩; rw [H3.out]))
        go_meet
        exact ⟨by rw [HTY.out, L2.out]; simp [] <;> omega, rfl⟩
      have l1 : ¬ (ch.length : Int) < 1 := by omega
      have L2 := Lib.hid (show decide (0 < ch.length) = true from decide_eq_true (by omega))
      by_cases z0 : le = 0
      · subst z0
        cases b3
        · go_wp2_with (first | (go_at_call 50; with_reducible refine (W1.out _).mono ?_; rintro e w1 ⟨rfl, rfl⟩; rw [H1.out]) | (go_at_call 51; with_reducible refine (W2.out _).mono ?_; rintro e w1 ⟨rfl, rfl⟩; rw [H2.out]) | (go_at_call 43; with_reducible refine W3.out.mono ?_; rintro e w1 ⟨rfl, rfl⟩; rw [H3.out]))
          go_meet
          exact ⟨by rw [HTY.out, L2.out]; simp <;> omega, rfl⟩
        · go_wp2_with (first | (go_at_call 50; with_reducible refine (W1.out _).mono ?_; rintro e w1 ⟨rfl, rfl⟩; rw [H1.out]) | (go_at_call 51; with_reducible refine (W2.out _).mono ?_; rintro e w1 ⟨rfl, rfl⟩; rw [H2.out]) | (go_at_call 43; with_reducible refine W3.out.mono ?_; rintro e w1 ⟨rfl, rfl⟩; rw [H3.out]))
          go_meet
          exact ⟨by rw [HTY.out, L2.out]; simp <;> omega, rfl⟩
      cases b2
      · go_wp2_with (first | (go_at_call 50; with_reducible refine (W1.out _).mono ?_; rintro e w1 ⟨rfl, rfl⟩; rw [H1.out]) | (go_at_call 51; with_reducible refine (W2.out _).mono ?_; rintro e w1 ⟨rfl, rfl⟩; rw [H2.out]) | (go_at_call 43; with_reducible refine W3.out.mono ?_; rintro e w1 ⟨rfl, rfl⟩; rw [H3.out]))
        go_meet
        exact ⟨by rw [HTY.out, L2.out]; simp [z0] <;> omega, rfl⟩
      cases b3
      · go_wp2_with (first | (go_at_call 50; with_reducible refine (W1.out _).mono ?_; rintro e w1 ⟨rfl, rfl⟩; rw [H1.out]) | (go_at_call 51; with_reducible refine (W2.out _).mono ?_; rintro e w1 ⟨rfl, rfl⟩; rw [H2.out]) | (go_at_call 43; with_reducible refine W3.out.mono ?_; rintro e w1 ⟨rfl, rfl⟩; rw [H3.out]))
        go_meet
        exact ⟨by rw [HTY.out, L2.out]; simp <;> omega, rfl⟩
      · go_wp2_with (first | (go_at_call 50; with_reducible refine (W1.out _).mono ?_; rintro e w1 ⟨rfl, rfl⟩; rw [H1.out]) | (go_at_call 51; with_reducible refine (W2.out _).mono ?_; rintro e w1 ⟨rfl, rfl⟩; rw [H2.out]) | (go_at_call 43; with_reducible refine W3.out.mono ?_; rintro e w1 ⟨rfl, rfl⟩; rw [H3.out]))
        go_meet
        exact ⟨by rw [HTY.out, L2.out]; simp <;> omega, rfl⟩
    case rest =>
    obtain ⟨rfl, hwc⟩ := hcut
    subst hwc
    cases Y
    · have hRf : R = false := HNY.out.1 (isPlaceB_no (fun h => by rw [HTY0.out] at h; exact absurd h.1 (by decide)))
      subst hRf
      have HF := Lib.hid (HK.out _ (Below.refl _ _)).2.2.2
      clear d0 d1 d2 e0
      go_wp2
      exact bodyPost_ret (v := .bool false) (by simp [results, Tryz.results16, go_sem]) rfl ⟨rfl, HF.out⟩
    clear d0 d1 d2 e0
    have HCA := Lib.hid HCP.out.at
    have HCC := Lib.hid HCP.out.cells
    obtain ⟨wq, hwq⟩ : ∃ wq, wq = wc := ⟨_, rfl⟩
    subst hwq
    go_wp2
    go_loopg [5] ch.length (fun gk i wt => ∃ j : Nat, j ≤ ch.length ∧ gk = ch.length - j ∧ i = .int .i64 j ∧ (∀ n ∈ ch.take j, 1 ≤ n ∧ n ≤ nodes) ∧ (ch.take j).Nodup ∧ Below wq.heap.size wq wt)
    case atStart => exact ⟨0, Nat.zero_le _, rfl, rfl, by simp, by simp, Below.refl _ _⟩
    case round =>
    obtain ⟨j, hj, rfl, rfl, hin, hnd, hbt⟩ := hrel
    have HT2 := Lib.hid (And.intro hin (And.intro hnd hbt))
    obtain ⟨-, e0, d1, -⟩ := HK.out _ hbt
    by_cases hjl : j < ch.length
    · have k1 : (j : Int) < (ch.length : Int) := by omega
      have k2 : (0 : Int) ≤ (j : Int) := by omega
      have hcap : (j : Int) ≤ (cc : Int) := by
        obtain ⟨a', c', e', h1, -, -⟩ := HCC.out
        simp only [Value.slice.injEq, true_and] at e'
        omega
      obtain ⟨cb, co, rfl, hcc⟩ := HCA.out j hjl
      have c3 := hcc _ hbt
      obtain ⟨m, hm⟩ : ∃ m, ch[j] = m := ⟨_, rfl⟩
      rw [hm] at c3
      have htk : ch.take (j + 1) = ch.take j ++ [m] := by rw [List.take_succ_eq_append_getElem hjl, hm]
      have hmm : m ∈ ch := by rw [← hm]; exact List.getElem_mem hjl
      have hrd : ∀ n, IntsRd (wr.drewN n) (.slice (some ⟨cb, co, none⟩) j cc) (ch.take j) := fun n => (HCP.out.below (hbt.trans ((below_drewN (Below.refl _ wr) n).mono hbt.size))).take j hj
      obtain ⟨b1, h1⟩ : ∃ b, inB m 1 nodes = b := ⟨_, rfl⟩
      obtain ⟨b2, h2⟩ : ∃ b, (ch.take j).contains m = b := ⟨_, rfl⟩
      have hq1 : ∀ W, Calls Tryz.prog 51 #[.int .i64 m, .int .i64 nodes] W fun e w' => e = .returned (.bool b1) ∧ w' = W := by
        intro W; rw [← h1]; exact R12node_any m nodes W
      have hq2 : ∀ n, Calls Tryz.prog 43 #[.slice (some ⟨cb, co, none⟩) j cc, .int .i64 m] (wr.drewN n) fun e w' => e = .returned (.bool b2) ∧ w' = wr.drewN n := by
        intro n; rw [← h2]; exact has_any (hrd n) m
      have hgo : b1 = true → b2 = false → (∀ n ∈ ch.take (j + 1), 1 ≤ n ∧ n ≤ nodes) ∧ (ch.take (j + 1)).Nodup := by
        intro q1 q2
        rw [q1, inB_iff] at h1
        rw [q2] at h2
        have hnm : m ∉ ch.take j := by simpa using h2
        rw [htk]
        refine ⟨fun n hn => ?_, ?_⟩
        · rcases List.mem_append.1 hn with h | h
          · exact hin n h
          · simp at h; rw [h]; exact h1
        · rw [List.nodup_append]
          refine ⟨hnd, by simp, fun a ha b hb e => ?_⟩
          simp at hb
          subst hb
          exact hnm (e ▸ ha)
      have hst1 : b1 = false → R = false := by
        intro q
        refine HNY.out.1 (isPlaceB_no (fun h => ?_))
        rw [q] at h1
        have := inB_iff.2 (h.2.1 m hmm)
        rw [h1] at this
        cases this
      have hst2 : b2 = true → R = false := by
        intro q
        refine HNY.out.1 (isPlaceB_no (fun h => ?_))
        rw [q] at h2
        have h3 : m ∈ ch.take j := by simpa using h2
        have h4 : (ch.take (j + 1)).Nodup := List.Sublist.nodup (List.take_sublist _ _) h.2.2
        rw [htk, List.nodup_append] at h4
        exact h4.2.2 m h3 m (by simp) rfl
      have HQ1 := Lib.hid hq1
      have HQ2 := Lib.hid hq2
      have HGO := Lib.hid (And.intro hgo (And.intro hst1 hst2))
      have HBT := Lib.hid hbt
      clear hin hnd hbt hcc hm htk hmm hrd h1 h2 hq1 hq2 hgo hst1 hst2
      cases b1
      · have hRf : R = false := HGO.out.2.1 rfl
        subst hRf
        go_wp2
        go_quiet ((first | (go_at_call 51; with_reducible exact Calls.quiet_of_same (HQ1.out _)) | (go_at_call 43; with_reducible exact Calls.quiet_of_same (HQ2.out _))))
        go_wp2
        exact bodyPost_ret (v := .bool false) (by simp [results, Tryz.results16, go_sem]) rfl ⟨rfl, (HK.out _ (below_drewN HBT.out _)).2.2.2⟩
      cases b2
      · go_wp2
        go_quiet ((first | (go_at_call 51; with_reducible exact Calls.quiet_of_same (HQ1.out _)) | (go_at_call 43; with_reducible exact Calls.quiet_of_same (HQ2.out _))))
        go_wp2
        go_roundg (ch.length - (j + 1))
        case measure => omega
        case rel => exact ⟨j + 1, by omega, rfl, by go_num, (HGO.out.1 (by trivial) (by trivial)).1, (HGO.out.1 (by trivial) (by trivial)).2, below_drewN HBT.out _⟩
      · have hRf : R = false := HGO.out.2.2 rfl
        subst hRf
        go_wp2
        go_quiet ((first | (go_at_call 51; with_reducible exact Calls.quiet_of_same (HQ1.out _)) | (go_at_call 43; with_reducible exact Calls.quiet_of_same (HQ2.out _))))
        go_wp2
        exact bodyPost_ret (v := .bool false) (by simp [results, Tryz.results16, go_sem]) rfl ⟨rfl, (HK.out _ (below_drewN HBT.out _)).2.2.2⟩
    · have k1 : ¬ (j : Int) < (ch.length : Int) := by omega
      have hfull : ch.take j = ch := List.take_of_length_le (by omega)
      rw [hfull] at hin hnd
      have hall := HNY.out.2 (isPlaceB_of HTY0.out hin hnd)
      have HF := Lib.hid (And.intro hall (HK.out _ hbt))
      clear hin hnd hbt hfull hall
      go_wp2
      go_roundg (P.length - (k + 1))
      case measure => omega
      case rel => exact ⟨k + 1, by omega, rfl, by go_num, HF.out.1, HF.out.2.1, HF.out.2.2.2.2⟩
  · have i1 : ¬ (k : Int) < (P.length : Int) := by omega
    have hkl : P.take k = P := List.take_of_length_le (by omega)
    rw [hkl] at hall
    have hR2 : R = (L.all (lifeOk nodes) && decide (Rising L)) := by rw [HR.out, hall]; rfl
    have HR2 := Lib.hid hR2
    have HB := Lib.hid (And.intro hx hbel)
    clear hR2 HX HR hkl hx hbel hall
    go_wp2
    go_loopg [6, 7] L.length (fun gk v6 i wx => ∃ (j : Nat) (z : Int), j ≤ L.length ∧ gk = L.length - j ∧ i = .int .i64 j ∧ v6 = .int .i64 z ∧ 0 ≤ z ∧ (j = 0 → z = 0) ∧ (∀ h : 0 < j, ∀ h' : j - 1 < L.length, L[j - 1].1 = z) ∧ (L.take j).all (lifeOk nodes) = true ∧ Rising (L.take j) ∧
      wx.heap[w.heap.size]? = some (.cells #[.int .i64 nodes, .int .i64 copies, .slice pa P.length pc, .slice la L.length lc] 25 (0, 0)) ∧ Below w.heap.size w wx)
    case atStart => exact ⟨0, 0, Nat.zero_le _, rfl, rfl, rfl, Int.le_refl _, fun _ => rfl, fun h => absurd h (Nat.lt_irrefl 0), rfl, List.Pairwise.nil, HB.out.1, HB.out.2⟩
    case round =>
    clear hsz hxlt HB hx2
    obtain ⟨j, z, hj, rfl, rfl, rfl, hz0, hzj, hzp, hall, hris, hx, hbel⟩ := hrel
    have HX := Lib.hid (And.intro hall (And.intro hris (And.intro hx hbel)))
    have hsz := hbel.size
    have hxlt : w.heap.size < wr.heap.size := (Array.getElem?_eq_some_iff.1 hx).1
    have hx0 := cells_of hx 0 _ rfl
    have hx3 := cells_of hx 3 _ rfl
    by_cases hlt : j < L.length
    · obtain ⟨b, off, rfl, hb, c0, c1⟩ := HL.out j hlt
      have c0 := below_some hbel c0 hb
      have c1 := below_some hbel c1 hb
      have i1 : (j : Int) < (L.length : Int) := by omega
      have i2 : (0 : Int) ≤ (j : Int) := by omega
      have htk : L.take (j + 1) = L.take j ++ [L[j]] := by rw [List.take_succ_eq_append_getElem hlt]
      have hmem : L[j] ∈ L := List.getElem_mem hlt
      have hno : lifeOk nodes L[j] = false → R = false := by
        intro h
        rw [HR2.out]
        have : L.all (lifeOk nodes) = false := by
          rw [List.all_eq_false]
          exact ⟨_, hmem, by simp [h]⟩
        simp [this]
      have hno2 : L[j].1 ≤ z → R = false := by
        intro h
        by_cases h0 : 0 < j
        · rw [HR2.out]
          have := Rising.not hlt h0 (by rw [hzp h0 (by omega)]; omega)
          simp [this]
        · refine hno ?_
          have hz := hzj (by omega)
          simp [lifeOk, inB]
          omega
      have hyes : ¬ L[j].1 ≤ z → lifeOk nodes L[j] = true → 0 ≤ L[j].1 ∧ (L.take (j + 1)).all (lifeOk nodes) = true ∧ Rising (L.take (j + 1)) := by
        intro h h2
        refine ⟨by omega, ?_, hris.snoc hlt (fun h0 => by rw [hzp h0 (by omega)]; omega)⟩
        rw [htk, List.all_append, hall]
        simp [h2]
      have HNO := Lib.hid (And.intro hno (And.intro hno2 hyes))
      clear htk hmem hno hno2 hyes hall hris hzj hzp hx
      obtain ⟨y, hy⟩ : ∃ y, L[j] = y := ⟨_, rfl⟩
      have hnx : ∀ h : 0 < j + 1, ∀ h' : j + 1 - 1 < L.length, L[j + 1 - 1].1 = y.1 := fun _ _ => congrArg Prod.fst hy
      have HNX := Lib.hid hnx
      rw [hy] at HNO c0 c1
      clear hy hnx
      obtain ⟨nd, lf⟩ := y
      simp only at HNO c0 c1
      have HBT := Lib.hid hbel
      clear hbel
      obtain ⟨b1, h1⟩ : ∃ b, inB nd 1 nodes = b := ⟨_, rfl⟩
      obtain ⟨b2, h2⟩ : ∃ b, inB lf 1 1073741824 = b := ⟨_, rfl⟩
      have hok : lifeOk nodes (nd, lf) = (b1 && b2) := by rw [← h1, ← h2]; rfl
      have hq1 : ∀ W, Calls Tryz.prog 51 #[.int .i64 nd, .int .i64 nodes] W fun e w' => e = .returned (.bool b1) ∧ w' = W := by
        intro W; rw [← h1]; exact R12node_any nd nodes W
      have hq2 : ∀ W, Calls Tryz.prog 50 #[.int .i64 lf] W fun e w' => e = .returned (.bool b2) ∧ w' = W := by
        intro W; rw [← h2]; exact R12num_any lf W
      have HQ1 := Lib.hid hq1
      have HQ2 := Lib.hid hq2
      have HOK := Lib.hid hok
      clear h1 h2 hok hq1 hq2
      by_cases hle : nd ≤ z
      · have hRf : R = false := HNO.out.2.1 hle
        subst hRf
        go_wp2
        go_quiet ((first | (go_at_call 51; with_reducible exact Calls.quiet_of_same (HQ1.out _)) | (go_at_call 50; with_reducible exact Calls.quiet_of_same (HQ2.out _))))
        go_wp2
        exact bodyPost_ret (v := .bool false) (by simp [results, Tryz.results16, go_sem]) rfl ⟨rfl, below_drewN HBT.out _⟩
      have hd : decide (nd ≤ z) = false := decide_eq_false hle
      cases b1
      · have hRf : R = false := HNO.out.1 (by rw [HOK.out]; rfl)
        subst hRf
        go_wp2
        go_quiet ((first | (go_at_call 51; with_reducible exact Calls.quiet_of_same (HQ1.out _)) | (go_at_call 50; with_reducible exact Calls.quiet_of_same (HQ2.out _))))
        go_wp2
        exact bodyPost_ret (v := .bool false) (by simp [results, Tryz.results16, go_sem]) rfl ⟨rfl, below_drewN HBT.out _⟩
      cases b2
      · have hRf : R = false := HNO.out.1 (by rw [HOK.out]; rfl)
        subst hRf
        go_wp2
        go_quiet ((first | (go_at_call 51; with_reducible exact Calls.quiet_of_same (HQ1.out _)) | (go_at_call 50; with_reducible exact Calls.quiet_of_same (HQ2.out _))))
        go_wp2
        exact bodyPost_ret (v := .bool false) (by simp [results, Tryz.results16, go_sem]) rfl ⟨rfl, below_drewN HBT.out _⟩
      have HN := Lib.hid (HNO.out.2.2 hle (by rw [HOK.out]; rfl))
      have ha0 : ∀ n, (wr.drewN n).cell? ⟨b, off + j * 2, none⟩ = some (.int .i64 nd) := fun n => by rw [World.cell?_drewN]; exact c0
      go_wp2
      go_quiet ((first | (go_at_call 51; with_reducible exact Calls.quiet_of_same (HQ1.out _)) | (go_at_call 50; with_reducible exact Calls.quiet_of_same (HQ2.out _))))
      go_wp2
      go_roundg (L.length - (j + 1))
      case measure => omega
      case rel => exact ⟨j + 1, nd, by omega, rfl, by go_num, rfl, HN.out.1, fun h => by omega, HNX.out, HN.out.2.1, HN.out.2.2, HX.out.2.2.1, below_drewN HBT.out _⟩
    · have i1 : ¬ (j : Int) < (L.length : Int) := by omega
      have hkl : L.take j = L := List.take_of_length_le (by omega)
      rw [hkl] at hall hris
      have hRt : R = true := by rw [HR2.out, hall]; simp [hris]
      subst hRt
      have HF := Lib.hid hbel
      clear hall hris hkl hx hbel hzj hzp
      go_wp2
      exact bodyPost_ret (v := .bool true) (by simp [results, Tryz.results16, go_sem]) rfl ⟨rfl, HF.out⟩
end Go.Proofs.YtjkobbmdemooaaaGreatDoor
