/- The walk of plan.Wants. -/
/- Plain words of plan.boot. -/
import Derived.Test.YtcpaaleogmiamaaGreatDoorMq14
namespace Go.Proofs.YtcpaaleogmiamaaGreatDoor
open Go.RowKit

def wantP (p : Pl) (n : Int) (x : Pt) : Bool := inB n 1 p.nodes && (decide ((x.chain.length : Int) < p.copies) && (decide (x.learner = 0) && !x.chain.contains n))
/-- The places in a list for which f holds. -/
def placesB {α : Type} (f : α → Bool) (l : List α) : List Int := ((List.range l.length).filter (fun i => (l[i]?.map f).getD false)).map (fun (i : Nat) => (i : Int))
def wantsP (p : Pl) (n : Int) : List Int := placesB (wantP p n) p.parts

theorem placesB_succ {α : Type} (f : α → Bool) (l : List α) (k : Nat) (hk : k < l.length) : placesB f (l.take (k + 1)) = placesB f (l.take k) ++ if f l[k] then [(k : Int)] else [] := by
  have h1 : (l.take (k + 1)).length = k + 1 := by simp; omega
  have h2 : (l.take k).length = k := by simp; omega
  unfold placesB
  rw [h1, h2, List.range_succ, List.filter_append, List.map_append]
  congr 1
  · congr 1
    apply List.filter_congr
    intro i hi
    have : i < k := by simpa using hi
    simp [this, Nat.lt_succ_of_lt this]
  · by_cases hf : f l[k] = true
    · simp [hf, List.getElem?_take, hk]
    · have hf : f l[k] = false := by simpa using hf
      simp [hf, List.getElem?_take, hk]

theorem placesB_length {α : Type} (f : α → Bool) (l : List α) : (placesB f l).length ≤ l.length := by
  unfold placesB
  rw [List.length_map]
  exact Nat.le_trans (List.length_filter_le _ _) (by simp)

set_option maxRecDepth 100000 in
set_option maxHeartbeats 4000000 in
theorem Wants_any {w : World} {v : Value} {p : Pl} (h : PlanRd w v p) (hl4 : p.parts.length ≤ 1000) (n : Int) : Calls Tryz.prog 19 #[v, .int .i64 n] w fun e w' =>
    ∃ tv, e = .returned tv ∧ IntsRd w' tv (wantsP p n) ∧ Below w.heap.size w w' := by
  obtain ⟨pv, lv, rfl, hp, hl⟩ := h
  obtain ⟨nodes, copies, P, L⟩ := p
  simp only at hp hl hl4 ⊢
  obtain ⟨pa, pc, rfl, -, -, hP⟩ := hp.cells
  obtain ⟨la, lc, rfl, -, -, -⟩ := hl.cells
  obtain ⟨i1, ki, kz0, kz1, kz2⟩ := info_parts info_Int
  have HP := Lib.hid hP
  have hpl : (P.length : Int) ≤ 1000 := by omega
  clear hp hl hP
  obtain ⟨f, hf⟩ : ∃ f : Pt → Bool, f = wantP ⟨nodes, copies, P, L⟩ n := ⟨_, rfl⟩
  have hw : wantsP ⟨nodes, copies, P, L⟩ n = placesB f P := by unfold wantsP; rw [hf]
  rw [hw]
  have HF := Lib.hid hf
  clear hw hf
  go_enter Tryz.func19, Tryz.ntmps19
  go_wp2
  go_loopg [5, 6, 7, 11] P.length (fun gk out _ _ i wr => ∃ (k : Nat), k ≤ P.length ∧ gk = P.length - k ∧ i = .int .i64 k ∧ wr.ownsRow (w.heap.size + 1) 3 1 out (placesB f (P.take k)).length (intCells (placesB f (P.take k))) ∧
    wr.heap[w.heap.size]? = some (.cells #[.int .i64 nodes, .int .i64 copies, .slice pa P.length pc, .slice la L.length lc] 52 (0, 0)) ∧ Below w.heap.size w wr)
  case atStart =>
    exact ⟨0, Nat.zero_le _, rfl, rfl, World.ownsRow_nil _ _ _ _, heap_alloc_new _ _, below_alloc _ _⟩
  case round =>
    obtain ⟨k, hk, rfl, rfl, hown, hx, hbel⟩ := hrel
    have HX := Lib.hid (And.intro hown (And.intro hx hbel))
    have hsz := hbel.size
    have hxlt : w.heap.size < wr.heap.size := (Array.getElem?_eq_some_iff.1 hx).1
    by_cases hlt : k < P.length
    · obtain ⟨b, off, ca, cc, rfl, hb, c0, c1, c2, hch⟩ := HP.out k hlt
      have c0 := below_some hbel c0 hb
      have c1 := below_some hbel c1 hb
      have c2 := below_some hbel c2 hb
      have hch2 := (hch.below hbel).below (below_alloc wr (.cells #[.int .i64 P[k].epoch, .slice ca P[k].chain.length cc, .int .i64 P[k].learner] 36))
      have hz : (wr.alloc (.cells #[.int .i64 P[k].epoch, .slice ca P[k].chain.length cc, .int .i64 P[k].learner] 36)).ownsRow (w.heap.size + 1) 3 1 u5 (placesB f (P.take k)).length (intCells (placesB f (P.take k))) := hown.alloc _
      have hxz := (Below.heap_alloc wr (.cells #[.int .i64 P[k].epoch, .slice ca P[k].chain.length cc, .int .i64 P[k].learner] 36) _ hxlt).trans hx
      have HZ := Lib.hid (And.intro hz (And.intro hxz (hbel.alloc hsz (.cells #[.int .i64 P[k].epoch, .slice ca P[k].chain.length cc, .int .i64 P[k].learner] 36))))
      have hx0 := cells_of hxz 0 _ rfl
      have hx1 := cells_of hxz 1 _ rfl
      have i1' : (k : Int) < (P.length : Int) := by omega
      have i2 : (0 : Int) ≤ (k : Int) := by omega
      have hno : f P[k] = false → placesB f (P.take (k + 1)) = placesB f (P.take k) := fun h => by rw [placesB_succ f P k hlt, h]; simp
      have hye : f P[k] = true → placesB f (P.take (k + 1)) = placesB f (P.take k) ++ [(k : Int)] := fun h => by rw [placesB_succ f P k hlt, h]; simp
      have hfy : f P[k] = (inB n 1 nodes && (decide ((P[k].chain.length : Int) < copies) && (decide (P[k].learner = 0) && !P[k].chain.contains n))) := by rw [HF.out]; rfl
      have hpl2 := placesB_length f (P.take k)
      have hpl3 : (placesB f (P.take k)).length ≤ 1000 := by simp at hpl2; omega
      have HNO := Lib.hid hno
      have HYE := Lib.hid hye
      have HFY := Lib.hid hfy
      have HCH := Lib.hid hch2
      clear hno hye hfy hch hch2 hz hxz hx hbel hown hpl2
      generalize P[k] = y at *
      obtain ⟨ep, ch, le⟩ := y
      simp only at *
      obtain ⟨b1, hb1⟩ : ∃ b1, inB n 1 nodes = b1 := ⟨_, rfl⟩
      obtain ⟨b4, hb4⟩ : ∃ b4, ch.contains n = b4 := ⟨_, rfl⟩
      rw [hb1, hb4] at HFY
      have HB1 := Lib.hid hb1
      have HB4 := Lib.hid hb4
      clear hb1 hb4
      cases b1
      · go_wp2_with (first | (go_at_call 74; refine (within_any _ _ _ _).mono ?_; rintro _ w1 ⟨rfl, rfl⟩; rw [HB1.out]) | (go_at_call 75; refine (Contains_any HCH.out n).mono ?_; rintro _ w1 ⟨rfl, rfl⟩; rw [HB4.out]))
        go_roundg (P.length - (k + 1))
        case measure => omega
        case rel => exact ⟨k + 1, by omega, rfl, by go_num, by rw [HNO.out (by simp [HFY.out] <;> (intros; omega))]; exact HZ.out.1, HZ.out.2.1, HZ.out.2.2⟩
      · by_cases h2 : (ch.length : Int) < copies
        · by_cases h3 : le = 0
          · subst h3
            cases b4
            · go_wp2_with (first | (go_at_call 74; refine (within_any _ _ _ _).mono ?_; rintro _ w1 ⟨rfl, rfl⟩; rw [HB1.out]) | (go_at_call 75; refine (Contains_any HCH.out n).mono ?_; rintro _ w1 ⟨rfl, rfl⟩; rw [HB4.out]) | (at_builtin; refine wpList_append_lies _ rfl _ _ 22 rfl (w.heap.size + 1) 3 i1 _ 1 8 und_Ints ki kz0 kz1 kz2 rfl (by decide) u5 (placesB f (P.take k)).length (intCells (placesB f (P.take k))) rfl (HZ.out.1.alloc _) ⟨wr.heap.size + 1, 0, none⟩ 1 1 [.int .i64 k] rfl rfl (World.news_of_block (cs := #[.int .i64 k]) (t := 3) (fr := (0, 0)) (heap_new1 wr _ _)) (by simp [Value.oneCell']) (by decide) ?_ ?_ ?_ _ rfl ?_; (unfold maxLen; omega); (omega); (simp only [World.size_alloc]; omega); intro g7 cap7 w7 hown7 hgrow7 hat7 hlt7; have H7 := Lib.hid (And.intro hown7 hgrow7); clear hown7 hgrow7 hat7 hlt7))
              have hu7 := (upd_alloc (fun b => some b = u5.ownBlock) _ (.cells #[.int .i64 (k : Int)] 3)).trans (upd_grown H7.out.2)
              have hlo := fun g hg => (owns_lt HZ.out.1 g hg).1
              go_roundg (P.length - (k + 1))
              case measure => omega
              case rel =>
                refine ⟨k + 1, by omega, rfl, by go_num, ?_, ?_, ?_⟩
                · rw [HYE.out (by simp [HFY.out, h2])]
                  have := H7.out.1
                  simpa [intCells] using this
                · rw [hu7.block _ (by simp; omega) (fun e => by have := hlo _ e.symm; omega)]
                  exact HZ.out.2.1
                · exact HZ.out.2.2.trans (hu7.toBelow (by simp; omega) (fun b e => by have := hlo _ e.symm; omega))
            · go_wp2_with (first | (go_at_call 74; refine (within_any _ _ _ _).mono ?_; rintro _ w1 ⟨rfl, rfl⟩; rw [HB1.out]) | (go_at_call 75; refine (Contains_any HCH.out n).mono ?_; rintro _ w1 ⟨rfl, rfl⟩; rw [HB4.out]))
              go_roundg (P.length - (k + 1))
              case measure => omega
              case rel => exact ⟨k + 1, by omega, rfl, by go_num, by rw [HNO.out (by simp [HFY.out] <;> (intros; omega))]; exact HZ.out.1, HZ.out.2.1, HZ.out.2.2⟩
          · go_wp2_with (first | (go_at_call 74; refine (within_any _ _ _ _).mono ?_; rintro _ w1 ⟨rfl, rfl⟩; rw [HB1.out]) | (go_at_call 75; refine (Contains_any HCH.out n).mono ?_; rintro _ w1 ⟨rfl, rfl⟩; rw [HB4.out]))
            go_roundg (P.length - (k + 1))
            case measure => omega
            case rel => exact ⟨k + 1, by omega, rfl, by go_num, by rw [HNO.out (by simp [HFY.out] <;> (intros; omega))]; exact HZ.out.1, HZ.out.2.1, HZ.out.2.2⟩
        · go_wp2_with (first | (go_at_call 74; refine (within_any _ _ _ _).mono ?_; rintro _ w1 ⟨rfl, rfl⟩; rw [HB1.out]) | (go_at_call 75; refine (Contains_any HCH.out n).mono ?_; rintro _ w1 ⟨rfl, rfl⟩; rw [HB4.out]))
          go_roundg (P.length - (k + 1))
          case measure => omega
          case rel => exact ⟨k + 1, by omega, rfl, by go_num, by rw [HNO.out (by simp [HFY.out] <;> (intros; omega))]; exact HZ.out.1, HZ.out.2.1, HZ.out.2.2⟩
    · have i1' : ¬ (k : Int) < (P.length : Int) := by omega
      have hkl : P.take k = P := List.take_of_length_le (by omega)
      rw [hkl] at hown
      have HO := Lib.hid hown
      clear hown hkl hx
      go_wp2
      go_ret
      exact ⟨_, rfl, IntsRd.of_owns HO.out, hbel⟩
end Go.Proofs.YtcpaaleogmiamaaGreatDoor
namespace Go.Proofs.YtcpaaleogmiamaaGreatDoor

def bootL (L : List (Int × Int)) (x : Int × Int) : List (Int × Int) := if hasLife L x.1 then L.set (lifeAt L x.1) x else L.take (lifeAt L x.1) ++ x :: L.drop (lifeAt L x.1)
def holdsB (n : Int) (y : Pt) : Bool := decide (y.learner = n) || y.chain.contains n

end Go.Proofs.YtcpaaleogmiamaaGreatDoor
