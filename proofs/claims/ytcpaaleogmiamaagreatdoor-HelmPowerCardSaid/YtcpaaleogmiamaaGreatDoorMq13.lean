/- The walk of plan.Good. -/
import Derived.Test.YtcpaaleogmiamaaGreatDoorMq12
namespace Go.Proofs.YtcpaaleogmiamaaGreatDoor
open Go.RowKit

def lifeOk (nodes : Int) (x : Int × Int) : Bool := inB x.1 1 nodes && inB x.2 1 1073741824
def Rising (l : List (Int × Int)) : Prop := l.Pairwise (fun a b => a.1 < b.1)
instance (l : List (Int × Int)) : Decidable (Rising l) := by unfold Rising; infer_instance

def goodP (p : Pl) : Bool :=
  inB p.nodes 1 5 && (inB p.copies 1 p.nodes && (inB p.parts.length 2 4 && (p.parts.all (isPlaceB · p.nodes) && (p.lives.all (lifeOk p.nodes) && decide (Rising p.lives)))))

theorem Rising.snoc {l : List (Int × Int)} {k : Nat} (hk : k < l.length) (h : Rising (l.take k)) (hx : ∀ (h0 : 0 < k), (l[k - 1]'(by omega)).1 < l[k].1) : Rising (l.take (k + 1)) := by
  rw [List.take_succ_eq_append_getElem hk]
  refine List.pairwise_append.2 ⟨h, by simp, ?_⟩
  intro a ha b hb
  simp only [List.mem_singleton] at hb
  subst hb
  obtain ⟨j, hj, e⟩ := List.mem_iff_getElem.1 ha
  have hj' : j < k := by simp at hj; omega
  have e2 : a = l[j] := by rw [← e]; simp
  rw [e2]
  have h1 := hx (by omega)
  by_cases hjk : j = k - 1
  · subst hjk; exact h1
  · have := List.pairwise_iff_getElem.1 h j (k - 1) hj (by simp; omega) (by omega)
    simp only [List.getElem_take] at this
    omega

theorem Rising.not {l : List (Int × Int)} {k : Nat} (hk : k < l.length) (h0 : 0 < k) (hx : ¬ (l[k - 1]'(by omega)).1 < l[k].1) : ¬ Rising l := by
  intro h
  exact hx (List.pairwise_iff_getElem.1 h (k - 1) k (by omega) hk (by omega))

theorem within_q (n a b : Int) (w : World) : Calls Tryz.prog 74 #[.int .i64 n, .int .i64 a, .int .i64 b] w fun e w' => e = .returned (.bool (inB n a b)) ∧ w' = w := within_any n a b w

set_option maxRecDepth 100000 in
set_option maxHeartbeats 4000000 in
theorem Good_any {w : World} {v : Value} {p : Pl} (h : PlanRd w v p) : Calls Tryz.prog 78 #[v] w fun e w' => e = .returned (.bool (goodP p)) ∧ Below w.heap.size w w' := by
  obtain ⟨pv, lv, rfl, hp, hl⟩ := h
  obtain ⟨nodes, copies, P, L⟩ := p
  simp only at hp hl ⊢
  obtain ⟨pa, pc, rfl, -, hpm, hP⟩ := hp.cells
  obtain ⟨la, lc, rfl, -, hlm, hL⟩ := hl.cells
  have hpm' : (P.length : Int) ≤ 9223372036854775807 := by have : maxLen = 9223372036854775807 := rfl; omega
  have hlm' : (L.length : Int) ≤ 9223372036854775807 := by have : maxLen = 9223372036854775807 := rfl; omega
  have HP := Lib.hid hP
  have HL := Lib.hid hL
  clear hp hl hP hL hpm hlm
  obtain ⟨R, hR⟩ : ∃ R, goodP ⟨nodes, copies, P, L⟩ = R := ⟨_, rfl⟩
  rw [hR]
  unfold goodP at hR
  simp only at hR
  by_cases h1 : inB nodes 1 5 = true
  case neg =>
    have h1 : inB nodes 1 5 = false := by simpa using h1
    have hRf : R = false := by rw [← hR, h1]; rfl
    subst hRf
    clear hR
    go_enter Tryz.func78, Tryz.ntmps78
    go_wp2_with (first | (go_at_call 74; refine (within_any _ _ _ _).mono ?_; rintro _ w1 ⟨rfl, rfl⟩; rw [h1]))
    exact bodyPost_ret (v := .bool false) (by simp [results, Tryz.results78, go_sem]) rfl ⟨rfl, below_alloc _ _⟩
  by_cases h2 : inB copies 1 nodes = true
  case neg =>
    have h2 : inB copies 1 nodes = false := by simpa using h2
    have hRf : R = false := by rw [← hR, h2]; simp
    subst hRf
    clear hR
    go_enter Tryz.func78, Tryz.ntmps78
    go_wp2_with (first | (go_at_call 74; refine (within_any _ _ _ _).mono ?_; rintro _ w1 ⟨rfl, rfl⟩; (first | rw [h1] | rw [h2])))
    exact bodyPost_ret (v := .bool false) (by simp [results, Tryz.results78, go_sem]) rfl ⟨rfl, below_alloc _ _⟩
  by_cases h3 : inB P.length 2 4 = true
  case neg =>
    have h3 : inB P.length 2 4 = false := by simpa using h3
    have hRf : R = false := by rw [← hR, h3]; simp
    subst hRf
    clear hR
    go_enter Tryz.func78, Tryz.ntmps78
    go_wp2_with (first | (go_at_call 74; refine (within_any _ _ _ _).mono ?_; rintro _ w1 ⟨rfl, rfl⟩; (first | rw [h1] | rw [h2] | rw [h3])))
    exact bodyPost_ret (v := .bool false) (by simp [results, Tryz.results78, go_sem]) rfl ⟨rfl, below_alloc _ _⟩
  have hR2 : R = (P.all (isPlaceB · nodes) && (L.all (lifeOk nodes) && decide (Rising L))) := by rw [← hR, h1, h2, h3]; simp
  have HR := Lib.hid hR2
  clear hR hR2
  go_enter Tryz.func78, Tryz.ntmps78
  go_wp2_with (first | (go_at_call 74; refine (within_any _ _ _ _).mono ?_; rintro _ w1 ⟨rfl, rfl⟩; (first | rw [h1] | rw [h2] | rw [h3])))
  clear h1 h2 h3
  go_loopg [4, 29] P.length (fun gk _ i wr => ∃ k : Nat, k ≤ P.length ∧ gk = P.length - k ∧ i = .int .i64 k ∧ (P.take k).all (isPlaceB · nodes) = true ∧
    wr.heap[w.heap.size]? = some (.cells #[.int .i64 nodes, .int .i64 copies, .slice pa P.length pc, .slice la L.length lc] 52 (0, 0)) ∧ Below w.heap.size w wr)
  case atStart => exact ⟨0, Nat.zero_le _, rfl, rfl, rfl, heap_alloc_new w _, below_alloc _ _⟩
  case round =>
    obtain ⟨k, hk, rfl, rfl, hall, hx, hbel⟩ := hrel
    have HX := Lib.hid (And.intro hall (And.intro hx hbel))
    have hsz := hbel.size
    have hxlt : w.heap.size < wr.heap.size := (Array.getElem?_eq_some_iff.1 hx).1
    have hx0 := cells_of hx 0 _ rfl
    have hx3 := cells_of hx 3 _ rfl
    clear hall
    by_cases hlt : k < P.length
    · obtain ⟨b, off, ca, cc, rfl, hb, c0, c1, c2, hch⟩ := HP.out k hlt
      have c0 := below_some hbel c0 hb
      have c1 := below_some hbel c1 hb
      have c2 := below_some hbel c2 hb
      have hch2 := (hch.below hbel).below (below_alloc wr (.cells #[.int .i64 P[k].epoch, .slice ca P[k].chain.length cc, .int .i64 P[k].learner] 36))
      have hx0a : (wr.alloc (.cells #[.int .i64 P[k].epoch, .slice ca P[k].chain.length cc, .int .i64 P[k].learner] 36)).cell? ⟨w.heap.size, 0, none⟩ = some (.int .i64 nodes) := below_some (below_alloc wr _) hx0 hxlt
      have i1 : (k : Int) < (P.length : Int) := by omega
      have i2 : (0 : Int) ≤ (k : Int) := by omega
      have htk : P.take (k + 1) = P.take k ++ [P[k]] := by rw [List.take_succ_eq_append_getElem hlt]
      have hmem : P[k] ∈ P := List.getElem_mem hlt
      have HT := Lib.hid (And.intro htk hmem)
      have HCH := Lib.hid hch2
      clear htk hmem hx hbel hch hch2
      generalize P[k] = y at *
      obtain ⟨ep, ch, le⟩ := y
      simp only at *
      cases hpl : isPlaceB ⟨ep, ch, le⟩ nodes
      · have hRf : R = false := by
          rw [HR.out]
          have : P.all (isPlaceB · nodes) = false := by
            rw [List.all_eq_false]
            exact ⟨_, HT.out.2, by simp [hpl]⟩
          simp [this]
        subst hRf
        go_wp2_with (first | (go_at_call 138; refine (isPlace_any ⟨ep, ch, le⟩ nodes HCH.out).mono ?_; rintro _ w1 ⟨rfl, hb1⟩; rw [hpl]))
        exact bodyPost_ret (v := .bool false) (by simp [results, Tryz.results78, go_sem]) rfl ⟨rfl, HX.out.2.2.trans ((below_trans (below_alloc _ _) hb1).mono hsz)⟩
      · go_wp2_with (first | (go_at_call 138; refine (isPlace_any ⟨ep, ch, le⟩ nodes HCH.out).mono ?_; rintro _ w1 ⟨rfl, hb1⟩; rw [hpl]))
        have hb2 := below_trans (below_alloc _ _) hb1
        go_roundg (P.length - (k + 1))
        case measure => omega
        case rel =>
          refine ⟨k + 1, by omega, rfl, by go_num, ?_, ?_, ?_⟩
          · rw [HT.out.1, List.all_append, HX.out.1]; simp [hpl]
          · rw [hb2.block _ hxlt]; exact HX.out.2.1
          · exact HX.out.2.2.trans (hb2.mono hsz)
    · have i1 : ¬ (k : Int) < (P.length : Int) := by omega
      have hkl : P.take k = P := List.take_of_length_le (by omega)
      have hR2 : R = (L.all (lifeOk nodes) && decide (Rising L)) := by
        rw [HR.out]
        have h1 := HX.out.1
        rw [hkl] at h1
        simp [h1]
      have HR2 := Lib.hid hR2
      have HB := Lib.hid (And.intro HX.out.2.1 HX.out.2.2)
      clear hR2 HX HR hkl hx hbel
      go_wp2
      go_loopg [5, 6, 42] L.length (fun gk _ _ i wx => ∃ j : Nat, j ≤ L.length ∧ gk = L.length - j ∧ i = .int .i64 j ∧ (L.take j).all (lifeOk nodes) = true ∧ Rising (L.take j) ∧
        wx.heap[w.heap.size]? = some (.cells #[.int .i64 nodes, .int .i64 copies, .slice pa P.length pc, .slice la L.length lc] 52 (0, 0)) ∧ Below w.heap.size w wx)
      case atStart => exact ⟨0, Nat.zero_le _, rfl, rfl, rfl, List.Pairwise.nil, HB.out.1, HB.out.2⟩
      case round =>
        clear hsz hxlt hx0 hx3 HB
        obtain ⟨j, hj, rfl, rfl, hall, hris, hx, hbel⟩ := hrel
        have HX := Lib.hid (And.intro hall (And.intro hris (And.intro hx hbel)))
        have hsz := hbel.size
        have hxlt : w.heap.size < wr.heap.size := (Array.getElem?_eq_some_iff.1 hx).1
        have hx0 := cells_of hx 0 _ rfl
        have hx3 := cells_of hx 3 _ rfl
        clear hall hris
        by_cases hlt : j < L.length
        · obtain ⟨b, off, rfl, hb, c0, c1⟩ := HL.out j hlt
          have hbw : b < wr.heap.size := by omega
          have c0 := below_some hbel c0 hb
          have c1 := below_some hbel c1 hb
          have i1 : (j : Int) < (L.length : Int) := by omega
          have i2 : (0 : Int) ≤ (j : Int) := by omega
          have htk : L.take (j + 1) = L.take j ++ [L[j]] := by rw [List.take_succ_eq_append_getElem hlt]
          have hmem : L[j] ∈ L := List.getElem_mem hlt
          have hsn := HX.out.2.1.snoc hlt
          have hno := fun h0 => Rising.not hlt h0
          obtain ⟨pr, hpr⟩ : ∃ pr : Int, (∀ h0 : 0 < j, (L[j - 1]'(by omega)).1 = pr) ∧ (0 < j → wr.cell? ⟨b, off + (j - 1) * 2, none⟩ = some (.int .i64 pr)) := by
            by_cases h0 : 0 < j
            · obtain ⟨b', off', e, hb', p0, -⟩ := HL.out (j - 1) (by omega)
              simp only [Option.some.injEq, Addr.mk.injEq, and_true] at e
              obtain ⟨rfl, rfl⟩ := e
              exact ⟨_, fun _ => rfl, fun _ => below_some hbel p0 hb'⟩
            · exact ⟨0, fun h => absurd h h0, fun h => absurd h h0⟩
          obtain ⟨hp1, hp2⟩ := hpr
          have hsn2 : (0 < j → pr < L[j].1) → Rising (L.take (j + 1)) := fun h => hsn (fun h0 => by rw [hp1 h0]; exact h h0)
          have hno2 : 0 < j → ¬ pr < L[j].1 → ¬ Rising L := fun h0 h => hno h0 (by rw [hp1 h0]; exact h)
          have HT := Lib.hid (And.intro htk (And.intro hmem (And.intro hsn2 hno2)))
          clear htk hmem hsn hno hp1 hsn2 hno2 hx hbel
          generalize L[j] = y at *
          obtain ⟨nd, lf⟩ := y
          simp only at *
          have HBX := Lib.hid (HX.out.2.2.2.alloc hsz (.cells #[.int .i64 nd, .int .i64 lf] 134))
          have hq1 := fun w => within_q nd 1 nodes w
          have hq2 := fun w => within_q lf 1 1073741824 w
          have hok : lifeOk nodes (nd, lf) = (inB nd 1 nodes && inB lf 1 1073741824) := rfl
          generalize inB nd 1 nodes = b1 at *
          generalize inB lf 1 1073741824 = b2 at *
          have HOK := Lib.hid hok
          clear hok
          have hnot : lifeOk nodes (nd, lf) = false → R = false := by
            intro h
            rw [HR2.out]
            have : L.all (lifeOk nodes) = false := by
              rw [List.all_eq_false]
              exact ⟨_, HT.out.2.1, by simp [h]⟩
            simp [this]
          have HNOT := Lib.hid hnot
          clear hnot
          cases b1
          · have hRf : R = false := HNOT.out (by rw [HOK.out]; rfl)
            subst hRf
            go_wp2
            go_quiet ((go_at_call 74; first | with_reducible exact Calls.quiet_of_same (hq1 _) | with_reducible exact Calls.quiet_of_same (hq2 _)))
            go_wp2
            exact bodyPost_ret (v := .bool false) (by simp [results, Tryz.results78, go_sem]) rfl ⟨rfl, below_drewN HBX.out _⟩
          · cases b2
            · have hRf : R = false := HNOT.out (by rw [HOK.out]; rfl)
              subst hRf
              go_wp2
              go_quiet ((go_at_call 74; first | with_reducible exact Calls.quiet_of_same (hq1 _) | with_reducible exact Calls.quiet_of_same (hq2 _)))
              go_wp2
              exact bodyPost_ret (v := .bool false) (by simp [results, Tryz.results78, go_sem]) rfl ⟨rfl, below_drewN HBX.out _⟩
            · by_cases h0 : 0 < j
              · obtain ⟨i, hi⟩ : ∃ i, j - 1 = i := ⟨_, rfl⟩
                have p0 := hp2 h0
                rw [hi] at p0
                have e1 : IntKind.i64.wrap ((j : Int) - 1) = (i : Int) := by rw [IntWalk.i64_in _ (by omega)]; omega
                have i3 : (i : Int) < (L.length : Int) := by omega
                have i4 : (0 : Int) ≤ (i : Int) := by omega
                have h0' : (0 : Int) < (j : Int) := by omega
                clear hp2
                by_cases hlt2 : pr < nd
                · have hd : decide (nd ≤ pr) = false := by simp; omega
                  go_wp2
                  go_quiet ((go_at_call 74; first | with_reducible exact Calls.quiet_of_same (hq1 _) | with_reducible exact Calls.quiet_of_same (hq2 _)))
                  go_wp2
                  go_roundg (L.length - (j + 1))
                  case measure => omega
                  case rel =>
                    refine ⟨j + 1, by omega, rfl, by go_num, ?_, HT.out.2.2.1 (fun _ => hlt2), ?_, below_drewN HBX.out _⟩
                    · rw [HT.out.1, List.all_append, HX.out.1]; simp [HOK.out]
                    · exact (Below.heap_alloc _ _ _ hxlt).trans HX.out.2.2.1
                · have hRf : R = false := by rw [HR2.out]; simp [HT.out.2.2.2 h0 hlt2]
                  subst hRf
                  have hd : nd ≤ pr := by omega
                  go_wp2
                  go_quiet ((go_at_call 74; first | with_reducible exact Calls.quiet_of_same (hq1 _) | with_reducible exact Calls.quiet_of_same (hq2 _)))
                  go_wp2
                  exact bodyPost_ret (v := .bool false) (by simp [results, Tryz.results78, go_sem]) rfl ⟨rfl, below_drewN HBX.out _⟩
              · have hd : decide ((0 : Int) < (j : Int)) = false := by simp; omega
                have hj0 : ¬ (0 : Int) < (j : Int) := by omega
                go_wp2
                go_quiet ((go_at_call 74; first | with_reducible exact Calls.quiet_of_same (hq1 _) | with_reducible exact Calls.quiet_of_same (hq2 _)))
                go_wp2
                go_roundg (L.length - (j + 1))
                case measure => omega
                case rel =>
                  refine ⟨j + 1, by omega, rfl, by go_num, ?_, HT.out.2.2.1 (fun h => absurd h h0), ?_, below_drewN HBX.out _⟩
                  · rw [HT.out.1, List.all_append, HX.out.1]; simp [HOK.out]
                  · exact (Below.heap_alloc _ _ _ hxlt).trans HX.out.2.2.1
        · have i1 : ¬ (j : Int) < (L.length : Int) := by omega
          have hkl : L.take j = L := List.take_of_length_le (by omega)
          have hRt : R = true := by
            rw [HR2.out]
            have h1 := HX.out.1
            have h2 := HX.out.2.1
            rw [hkl] at h1 h2
            simp [h1, h2]
          subst hRt
          go_wp2
          exact bodyPost_ret (v := .bool true) (by simp [results, Tryz.results78, go_sem]) rfl ⟨rfl, HX.out.2.2.2⟩
end Go.Proofs.YtcpaaleogmiamaaGreatDoor
