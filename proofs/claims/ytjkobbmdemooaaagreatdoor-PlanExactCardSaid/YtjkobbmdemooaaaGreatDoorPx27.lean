/- The walks of the reference's Wants and without of layer 12; great. -/
import Derived.Test.YtjkobbmdemooaaaGreatDoorPx18
import Derived.Test.YtjkobbmdemooaaaGreatDoorPx26
namespace Go.Proofs.YtjkobbmdemooaaaGreatDoor
open Go.RowKit

set_option maxRecDepth 100000 in
set_option maxHeartbeats 4000000 in
theorem R12Wants_any {w : World} {v : Value} {p : Pl} (h : PlanRd w v p) (hl4 : p.parts.length ≤ 1000) (n : Int) : Calls Tryz.prog 20 #[v, .int .i64 n] w fun e w' =>
    ∃ tv, e = .returned tv ∧ IntsRd w' tv (wantsP p n) ∧ Below w.heap.size w w' := by
  obtain ⟨pv, lv, rfl, hp, hl⟩ := h
  obtain ⟨nodes, copies, P, L⟩ := p
  simp only at hp hl hl4 ⊢
  obtain ⟨pa, pc, rfl, -, -, hP⟩ := hp.cells
  obtain ⟨la, lc, rfl, -, -, -⟩ := hl.cells
  obtain ⟨i1, ki, kz0, kz1, kz2⟩ := info_parts info_Int
  have HP := Lib.hid hP
  have hpl : (P.length : Int) ≤ 1000 := by omega
  clear hp hl hP
  obtain ⟨f, hf⟩ : ∃ f : Pt → Bool, f = wantP ⟨nodes, copies, P, L⟩ n := ⟨_, rfl⟩
  have hw : wantsP ⟨nodes, copies, P, L⟩ n = placesB f P := by unfold wantsP; rw [hf]
  rw [hw]
  have HF := Lib.hid hf
  clear hw hf
  go_enter Tryz.func20, Tryz.ntmps20
  go_wp2
  go_loopg [5, 6] P.length (fun gk out i wr => ∃ (k : Nat), k ≤ P.length ∧ gk = P.length - k ∧ i = .int .i64 k ∧ wr.ownsRow (w.heap.size + 1) 3 1 out (placesB f (P.take k)).length (intCells (placesB f (P.take k))) ∧
    wr.heap[w.heap.size]? = some (.cells #[.int .i64 nodes, .int .i64 copies, .slice pa P.length pc, .slice la L.length lc] 25 (0, 0)) ∧ Below w.heap.size w wr)
  case atStart =>
    have hmade := World.ownsRow_made (e := 3) (size := 1) (base := w.heap.size + 1) (w.alloc (.cells #[.int .i64 nodes, .int .i64 copies, .slice pa P.length pc, .slice la L.length lc] 25)) #[] 0 (by simp) (Nat.zero_le _) rfl
    simp only [World.size_alloc] at hmade
    exact ⟨0, Nat.zero_le _, rfl, rfl, hmade, (Below.heap_alloc _ _ _ (by simp)).trans (heap_alloc_new _ _), below_alloc2 _ _ _⟩
  case round =>
    obtain ⟨k, hk, rfl, rfl, hown, hx, hbel⟩ := hrel
    have HX := Lib.hid (And.intro hown (And.intro hx hbel))
    have hsz := hbel.size
    have hx2w := cells_of hx 2 _ rfl
    have hxlt : w.heap.size < wr.heap.size := (Array.getElem?_eq_some_iff.1 hx).1
    by_cases hlt : k < P.length
    · obtain ⟨b, off, ca, cc, rfl, hb, c0, c1, c2, hch⟩ := HP.out k hlt
      have c0 := below_some hbel c0 hb
      have c1 := below_some hbel c1 hb
      have c2 := below_some hbel c2 hb
      have hch2 := (hch.below hbel).below (below_alloc wr (.cells #[.int .i64 P[k].epoch, .slice ca P[k].chain.length cc, .int .i64 P[k].learner] 74))
      have hz : (wr.alloc (.cells #[.int .i64 P[k].epoch, .slice ca P[k].chain.length cc, .int .i64 P[k].learner] 74)).ownsRow (w.heap.size + 1) 3 1 u5 (placesB f (P.take k)).length (intCells (placesB f (P.take k))) := hown.alloc _
      have hxz := (Below.heap_alloc wr (.cells #[.int .i64 P[k].epoch, .slice ca P[k].chain.length cc, .int .i64 P[k].learner] 74) _ hxlt).trans hx
      have HZ := Lib.hid (And.intro hz (And.intro hxz (hbel.alloc hsz (.cells #[.int .i64 P[k].epoch, .slice ca P[k].chain.length cc, .int .i64 P[k].learner] 74))))
      have hx0 := cells_of hxz 0 _ rfl
      have hx1 := cells_of hxz 1 _ rfl
      have i1' : (k : Int) < (P.length : Int) := by omega
      have i2 : (0 : Int) ≤ (k : Int) := by omega
      have hno : f P[k] = false → placesB f (P.take (k + 1)) = placesB f (P.take k) := fun h => by rw [placesB_succ f P k hlt, h]; simp
      have hye : f P[k] = true → placesB f (P.take (k + 1)) = placesB f (P.take k) ++ [(k : Int)] := fun h => by rw [placesB_succ f P k hlt, h]; simp
      have hfy : f P[k] = (inB n 1 nodes && (decide ((P[k].chain.length : Int) < copies) && (decide (P[k].learner = 0) && !P[k].chain.contains n))) := by rw [HF.out]; rfl
      have hpl2 := placesB_length f (P.take k)
      have hpl3 : (placesB f (P.take k)).length ≤ 1000 := by simp at hpl2; omega
      have HNO := Lib.hid hno
      have HYE := Lib.hid hye
      have HFY := Lib.hid hfy
      have HCH := Lib.hid hch2
      clear hno hye hfy hch hch2 hz hxz hx hbel hown hpl2
      generalize P[k] = y at *
      obtain ⟨ep, ch, le⟩ := y
      simp only at *
      obtain ⟨b1, hb1⟩ : ∃ b1, inB n 1 nodes = b1 := ⟨_, rfl⟩
      obtain ⟨b4, hb4⟩ : ∃ b4, ch.contains n = b4 := ⟨_, rfl⟩
      rw [hb1, hb4] at HFY
      have HB1 := Lib.hid hb1
      have HB4 := Lib.hid hb4
      clear hb1 hb4
      cases b1
      · go_wp2_with (first | (go_at_call 51; refine (R12node_any _ _ _).mono ?_; rintro _ w1 ⟨rfl, rfl⟩; rw [HB1.out]) | (go_at_call 43; refine (has_any HCH.out n).mono ?_; rintro _ w1 ⟨rfl, rfl⟩; rw [HB4.out]))
        go_roundg (P.length - (k + 1))
        case measure => omega
        case rel => exact ⟨k + 1, by omega, rfl, by go_num, by rw [HNO.out (by simp [HFY.out] <;> (intros; omega))]; exact HZ.out.1, HZ.out.2.1, HZ.out.2.2⟩
      · by_cases h2 : (ch.length : Int) < copies
        · by_cases h3 : le = 0
          · subst h3
            cases b4
            · go_wp2_with (first | (go_at_call 51; refine (R12node_any _ _ _).mono ?_; rintro _ w1 ⟨rfl, rfl⟩; rw [HB1.out]) | (go_at_call 43; refine (has_any HCH.out n).mono ?_; rintro _ w1 ⟨rfl, rfl⟩; rw [HB4.out]) | (at_builtin; refine wpList_append_lies _ rfl _ _ 32 rfl (w.heap.size + 1) 3 i1 _ 1 8 und_Ints ki kz0 kz1 kz2 rfl (by decide) u5 (placesB f (P.take k)).length (intCells (placesB f (P.take k))) rfl (HZ.out.1.alloc _) ⟨wr.heap.size + 1, 0, none⟩ 1 1 [.int .i64 k] rfl rfl (World.news_of_block (cs := #[.int .i64 k]) (t := 3) (fr := (0, 0)) (heap_new1 wr _ _)) (by simp [Value.oneCell']) (by decide) ?_ ?_ ?_ _ rfl ?_; (unfold maxLen; omega); (omega); (simp only [World.size_alloc]; omega); intro g7 cap7 w7 hown7 hgrow7 hat7 hlt7; have H7 := Lib.hid (And.intro hown7 hgrow7); clear hown7 hgrow7 hat7 hlt7))
              have hu7 := (upd_alloc (fun b => some b = u5.ownBlock) _ (.cells #[.int .i64 (k : Int)] 3)).trans (upd_grown H7.out.2)
              have hlo := fun g hg => (owns_lt HZ.out.1 g hg).1
              go_roundg (P.length - (k + 1))
              case measure => omega
              case rel =>
                refine ⟨k + 1, by omega, rfl, by go_num, ?_, ?_, ?_⟩
                · rw [HYE.out (by simp [HFY.out, h2])]
                  have := H7.out.1
                  simpa [intCells] using this
                · rw [hu7.block _ (by simp; omega) (fun e => by have := hlo _ e.symm; omega)]
                  exact HZ.out.2.1
                · exact HZ.out.2.2.trans (hu7.toBelow (by simp; omega) (fun b e => by have := hlo _ e.symm; omega))
            · go_wp2_with (first | (go_at_call 51; refine (R12node_any _ _ _).mono ?_; rintro _ w1 ⟨rfl, rfl⟩; rw [HB1.out]) | (go_at_call 43; refine (has_any HCH.out n).mono ?_; rintro _ w1 ⟨rfl, rfl⟩; rw [HB4.out]))
              go_roundg (P.length - (k + 1))
              case measure => omega
              case rel => exact ⟨k + 1, by omega, rfl, by go_num, by rw [HNO.out (by simp [HFY.out] <;> (intros; omega))]; exact HZ.out.1, HZ.out.2.1, HZ.out.2.2⟩
          · go_wp2_with (first | (go_at_call 51; refine (R12node_any _ _ _).mono ?_; rintro _ w1 ⟨rfl, rfl⟩; rw [HB1.out]) | (go_at_call 43; refine (has_any HCH.out n).mono ?_; rintro _ w1 ⟨rfl, rfl⟩; rw [HB4.out]))
            go_roundg (P.length - (k + 1))
            case measure => omega
            case rel => exact ⟨k + 1, by omega, rfl, by go_num, by rw [HNO.out (by simp [HFY.out] <;> (intros; omega))]; exact HZ.out.1, HZ.out.2.1, HZ.out.2.2⟩
        · go_wp2_with (first | (go_at_call 51; refine (R12node_any _ _ _).mono ?_; rintro _ w1 ⟨rfl, rfl⟩; rw [HB1.out]) | (go_at_call 43; refine (has_any HCH.out n).mono ?_; rintro _ w1 ⟨rfl, rfl⟩; rw [HB4.out]))
          go_roundg (P.length - (k + 1))
          case measure => omega
          case rel => exact ⟨k + 1, by omega, rfl, by go_num, by rw [HNO.out (by simp [HFY.out] <;> (intros; omega))]; exact HZ.out.1, HZ.out.2.1, HZ.out.2.2⟩
    · have i1' : ¬ (k : Int) < (P.length : Int) := by omega
      have hkl : P.take k = P := List.take_of_length_le (by omega)
      rw [hkl] at hown
      have HO := Lib.hid hown
      clear hown hkl hx
      go_wp2
      go_ret
      exact ⟨_, rfl, IntsRd.of_owns HO.out, hbel⟩

def withoutL (l : List Int) (n : Int) : List Int := l.filter (fun m => decide (m ≠ n))
theorem withoutL_succ (l : List Int) (n : Int) (k : Nat) (hk : k < l.length) : withoutL (l.take (k + 1)) n = withoutL (l.take k) n ++ if l[k] = n then [] else [l[k]] := by
  unfold withoutL
  rw [List.take_succ_eq_append_getElem hk, List.filter_append]
  by_cases h : l[k] = n <;> simp [h]

set_option maxRecDepth 100000 in
set_option maxHeartbeats 4000000 in
theorem without_any {w : World} {v : Value} {l : List Int} (h : IntsRd w v l) (hl : l.length ≤ 1000) (n : Int) : Calls Tryz.prog 44 #[v, .int .i64 n] w fun e w' =>
    ∃ cv, e = .returned cv ∧ w'.ownsRow w.heap.size 3 1 cv (withoutL l n).length (intCells (withoutL l n)) ∧ Below w.heap.size w w' := by
  obtain ⟨a, c, rfl, -, -, hC⟩ := h.cells
  obtain ⟨i1, ki, kz0, kz1, kz2⟩ := info_parts info_Int
  have HC := Lib.hid hC
  have hl' : (l.length : Int) ≤ 1000 := by omega
  clear h hC
  go_enter Tryz.func44, Tryz.ntmps44
  go_wp2
  go_loopg [5, 6] l.length (fun gk out i wr => ∃ k : Nat, k ≤ l.length ∧ gk = l.length - k ∧ i = .int .i64 k ∧ wr.ownsRow w.heap.size 3 1 out (withoutL (l.take k) n).length (intCells (withoutL (l.take k) n)) ∧ Below w.heap.size w wr)
  case atStart =>
    have hmade := World.ownsRow_made (e := 3) (size := 1) (base := w.heap.size) w #[] 0 (Nat.le_refl _) (Nat.zero_le _) rfl
    exact ⟨0, Nat.zero_le _, rfl, rfl, hmade, below_alloc _ _⟩
  case round =>
    obtain ⟨k, hk, rfl, rfl, hown, hbel⟩ := hrel
    have hsz := hbel.size
    have HX := Lib.hid (And.intro hown hbel)
    have hlen : (withoutL (l.take k) n).length ≤ k := Nat.le_trans (List.length_filter_le _ _) (by simp; omega)
    by_cases hlt : k < l.length
    · obtain ⟨b, off, rfl, hb, c0⟩ := HC.out k hlt
      have c0 := below_some hbel c0 hb
      have i1' : (k : Int) < (l.length : Int) := by omega
      have i2 : (0 : Int) ≤ (k : Int) := by omega
      have hs := withoutL_succ l n k hlt
      obtain ⟨x, hx⟩ : ∃ x, l[k] = x := ⟨_, rfl⟩
      rw [hx] at hs c0
      have HS := Lib.hid hs
      clear hs hx hown hbel
      by_cases hxn : x = n
      · go_wp2
        go_roundg (l.length - (k + 1))
        case measure => omega
        case rel =>
          refine ⟨k + 1, by omega, rfl, by go_num, ?_, HX.out.2⟩
          have h := HX.out.1
          rw [HS.out, if_pos hxn, List.append_nil]
          exact h
      · go_wp2_with (first | (at_builtin; refine wpList_append_lies _ rfl _ _ 32 rfl w.heap.size 3 i1 _ 1 8 und_Ints ki kz0 kz1 kz2 rfl (by decide) u5 (withoutL (l.take k) n).length (intCells (withoutL (l.take k) n)) rfl (HX.out.1.alloc _) ⟨wr.heap.size, 0, none⟩ 1 1 [.int .i64 x] rfl rfl (World.news_of_block (cs := #[.int .i64 x]) (t := 3) (fr := (0, 0)) (heap_alloc_new wr _)) (by simp [Value.oneCell']) (by decide) ?_ ?_ ?_ _ rfl ?_; (unfold maxLen; omega); (omega); (simp only [World.size_alloc]; omega); intro g7 cap7 w7 hown7 hgrow7 hat7 hlt7; have H7 := Lib.hid (And.intro hown7 hgrow7); clear hown7 hgrow7 hat7 hlt7))
        have hu7 := (upd_alloc (fun b => some b = u5.ownBlock) wr (.cells #[.int .i64 x] 3)).trans (upd_grown H7.out.2)
        have hlo := fun g hg => (owns_lt HX.out.1 g hg).1
        go_roundg (l.length - (k + 1))
        case measure => omega
        case rel =>
          refine ⟨k + 1, by omega, rfl, by go_num, ?_, ?_⟩
          · rw [HS.out, if_neg hxn]
            have := H7.out.1
            simpa [intCells] using this
          · exact HX.out.2.trans (hu7.toBelow (by omega) (fun b e => hlo _ e.symm))
    · have i1' : ¬ (k : Int) < (l.length : Int) := by omega
      have hkl : l.take k = l := List.take_of_length_le (by omega)
      rw [hkl] at hown
      have HO := Lib.hid (And.intro hown hbel)
      clear hown hkl hbel hlen
      go_wp2
      go_ret
      exact ⟨_, rfl, HO.out.1, HO.out.2⟩

/-- Whether a plan is more than is asked. -/
def greatP (p : Pl) : Bool := decide (20 < p.parts.length) || (decide (20 < p.lives.length) || p.parts.any (fun y => decide (20 < y.chain.length)))

set_option maxRecDepth 100000 in
set_option maxHeartbeats 2000000 in
theorem great_any {w : World} {v : Value} {p : Pl} (h : PlanRd w v p) : Calls Tryz.prog 8 #[v] w fun e w' => e = .returned (.bool (greatP p)) ∧ Below w.heap.size w w' := by
  obtain ⟨pv, lv, rfl, hp, hl⟩ := h
  obtain ⟨nodes, copies, P, L⟩ := p
  simp only at hp hl ⊢
  obtain ⟨pa, pc, rfl, -, hpm, hP⟩ := hp.cells
  obtain ⟨la, lc, rfl, -, hlm, -⟩ := hl.cells
  have hpm' : (P.length : Int) ≤ 9223372036854775807 := by have : maxLen = 9223372036854775807 := rfl; omega
  have HP := Lib.hid hP
  obtain ⟨R, hR⟩ : ∃ R, greatP ⟨nodes, copies, P, L⟩ = R := ⟨_, rfl⟩
  rw [hR]
  unfold greatP at hR
  simp only at hR
  have HR := Lib.hid hR
  clear hp hl hP hpm hlm hR
  by_cases h1 : 20 < P.length
  · have h1' : (20 : Int) < (P.length : Int) := by omega
    have hRt : R = true := by rw [← HR.out]; simp [h1]
    subst hRt
    go_enter Tryz.func8, Tryz.ntmps8
    go_wp2
    exact bodyPost_ret (v := .bool true) (by simp [results, Tryz.results8, go_sem]) rfl ⟨rfl, below_alloc _ _⟩
  by_cases h2 : 20 < L.length
  · have h1' : ¬ (20 : Int) < (P.length : Int) := by omega
    have h2' : (20 : Int) < (L.length : Int) := by omega
    have hRt : R = true := by rw [← HR.out]; simp [h2]
    subst hRt
    go_enter Tryz.func8, Tryz.ntmps8
    go_wp2
    exact bodyPost_ret (v := .bool true) (by simp [results, Tryz.results8, go_sem]) rfl ⟨rfl, below_alloc _ _⟩
  have h1' : ¬ (20 : Int) < (P.length : Int) := by omega
  have h2' : ¬ (20 : Int) < (L.length : Int) := by omega
  have hR2 : P.any (fun y => decide (20 < y.chain.length)) = R := by rw [← HR.out]; simp [h1, h2]
  have HR2 := Lib.hid hR2
  clear hR2 HR
  go_enter Tryz.func8, Tryz.ntmps8
  go_wp2
  go_loopg [3] P.length (fun gk i wr => ∃ k : Nat, k ≤ P.length ∧ gk = P.length - k ∧ i = .int .i64 k ∧ (P.take k).any (fun y => decide (20 < y.chain.length)) = false ∧ wr = w.alloc (.cells #[.int .i64 nodes, .int .i64 copies, .slice pa P.length pc, .slice la L.length lc] 25))
  case atStart => exact ⟨0, Nat.zero_le _, rfl, rfl, rfl, rfl⟩
  case round =>
    obtain ⟨k, hk, rfl, rfl, hall, rfl⟩ := hrel
    have HA := Lib.hid hall
    clear hall
    by_cases hlt : k < P.length
    · obtain ⟨b, off, ca, cc, rfl, hb, c0, c1, c2, -⟩ := HP.out k hlt
      have c1 := below_some (below_alloc w (.cells #[.int .i64 nodes, .int .i64 copies, .slice (some ⟨b, off, none⟩) P.length pc, .slice la L.length lc] 25)) c1 hb
      have i1 : (k : Int) < (P.length : Int) := by omega
      have i2 : (0 : Int) ≤ (k : Int) := by omega
      have htk : P.take (k + 1) = P.take k ++ [P[k]] := by rw [List.take_succ_eq_append_getElem hlt]
      have hmem : P[k] ∈ P := List.getElem_mem hlt
      have hyes : 20 < P[k].chain.length → R = true := fun h => by rw [← HR2.out, List.any_eq_true]; exact ⟨_, hmem, by simpa using h⟩
      have hno : ¬ 20 < P[k].chain.length → (P.take (k + 1)).any (fun y => decide (20 < y.chain.length)) = false := fun h => by rw [htk, List.any_append, HA.out]; simp; omega
      have HY := Lib.hid (And.intro hyes hno)
      clear htk hmem hyes hno c0 c2
      generalize P[k].chain.length = m at *
      by_cases hm : 20 < m
      · have hm' : (20 : Int) < (m : Int) := by omega
        have hRt := HY.out.1 hm
        subst hRt
        go_wp2
        exact bodyPost_ret (v := .bool true) (by simp [results, Tryz.results8, go_sem]) rfl ⟨rfl, below_alloc _ _⟩
      · have hm' : ¬ (20 : Int) < (m : Int) := by omega
        go_wp2
        go_roundg (P.length - (k + 1))
        case measure => omega
        case rel => exact ⟨k + 1, by omega, rfl, by go_num, HY.out.2 hm, rfl⟩
    · have i1 : ¬ (k : Int) < (P.length : Int) := by omega
      have hkl : P.take k = P := List.take_of_length_le (by omega)
      have hRf : R = false := by
        rw [← HR2.out]
        have := HA.out
        rw [hkl] at this
        exact this
      subst hRf
      clear hkl
      go_wp2
      exact bodyPost_ret (v := .bool false) (by simp [results, Tryz.results8, go_sem]) rfl ⟨rfl, below_alloc _ _⟩
end Go.Proofs.YtjkobbmdemooaaaGreatDoor
