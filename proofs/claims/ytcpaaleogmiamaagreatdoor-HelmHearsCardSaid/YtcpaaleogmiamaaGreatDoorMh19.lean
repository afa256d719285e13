/- The walk of plan.Wants. -/
/- Plain words of plan.boot. -/
/- The walk of plan.boot. -/
import Derived.Test.YtcpaaleogmiamaaGreatDoorMh13
import Derived.Test.YtcpaaleogmiamaaGreatDoorMh18
import Derived.Test.YtcpaaleogmiamaaGreatDoorMh11
namespace Go.Proofs.YtcpaaleogmiamaaGreatDoor
open Go.RowKit

def wantP (p : Pl) (n : Int) (x : Pt) : Bool := inB n 1 p.nodes && (decide ((x.chain.length : Int) < p.copies) && (decide (x.learner = 0) && !x.chain.contains n))
/-- The places in a list for which f holds. -/
def placesB {α : Type} (f : α → Bool) (l : List α) : List Int := ((List.range l.length).filter (fun i => (l[i]?.map f).getD false)).map (fun (i : Nat) => (i : Int))
def wantsP (p : Pl) (n : Int) : List Int := placesB (wantP p n) p.parts

theorem placesB_succ {α : Type} (f : α → Bool) (l : List α) (k : Nat) (hk : k < l.length) : placesB f (l.take (k + 1)) = placesB f (l.take k) ++ if f l[k] then [(k : Int)] else [] := by
  have h1 : (l.take (k + 1)).length = k + 1 := by simp; omega
  have h2 : (l.take k).length = k := by simp; omega
  unfold placesB
  rw [h1, h2, List.range_succ, List.filter_append, List.map_append]
  congr 1
  · congr 1
    apply List.filter_congr
    intro i hi
    have : i < k := by simpa using hi
    simp [this, Nat.lt_succ_of_lt this]
  · by_cases hf : f l[k] = true
    · simp [hf, List.getElem?_take, hk]
    · have hf : f l[k] = false := by simpa using hf
      simp [hf, List.getElem?_take, hk]

theorem placesB_length {α : Type} (f : α → Bool) (l : List α) : (placesB f l).length ≤ l.length := by
  unfold placesB
  rw [List.length_map]
  exact Nat.le_trans (List.length_filter_le _ _) (by simp)

set_option maxRecDepth 100000 in
set_option maxHeartbeats 4000000 in
theorem Wants_any {w : World} {v : Value} {p : Pl} (h : PlanRd w v p) (hl4 : p.parts.length ≤ 1000) (n : Int) : Calls Tryz.prog 19 #[v, .int .i64 n] w fun e w' =>
    ∃ tv, e = .returned tv ∧ IntsRd w' tv (wantsP p n) ∧ Below w.heap.size w w' := by
  obtain ⟨pv, lv, rfl, hp, hl⟩ := h
  obtain ⟨nodes, copies, P, L⟩ := p
  simp only at hp hl hl4 ⊢
  obtain ⟨pa, pc, rfl, -, -, hP⟩ := hp.cells
  obtain ⟨la, lc, rfl, -, -, -⟩ := hl.cells
  obtain ⟨i1, ki, kz0, kz1, kz2⟩ := info_parts info_Int
  have HP := Lib.hid hP
  have hpl : (P.length : Int) ≤ 1000 := by omega
  clear hp hl hP
  obtain ⟨f, hf⟩ : ∃ f : Pt → Bool, f = wantP ⟨nodes, copies, P, L⟩ n := ⟨_, rfl⟩
  have hw : wantsP ⟨nodes, copies, P, L⟩ n = placesB f P := by unfold wantsP; rw [hf]
  rw [hw]
  have HF := Lib.hid hf
  clear hw hf
  go_enter Tryz.func19, Tryz.ntmps19
  go_wp2
  go_loopg [5, 6, 7, 11] P.length (fun gk out _ _ i wr => ∃ (k : Nat), k ≤ P.length ∧ gk = P.length - k ∧ i = .int .i64 k ∧ wr.ownsRow (w.heap.size + 1) 3 1 out (placesB f (P.take k)).length (intCells (placesB f (P.take k))) ∧
    wr.heap[w.heap.size]? = some (.cells #[.int .i64 nodes, .int .i64 copies, .slice pa P.length pc, .slice la L.length lc] 52 (0, 0)) ∧ Below w.heap.size w wr)
  case atStart =>
    exact ⟨0, Nat.zero_le _, rfl, rfl, World.ownsRow_nil _ _ _ _, heap_alloc_new _ _, below_alloc _ _⟩
  case round =>
    obtain ⟨k, hk, rfl, rfl, hown, hx, hbel⟩ := hrel
    have HX := Lib.hid (And.intro hown (And.intro hx hbel))
    have hsz := hbel.size
    have hxlt : w.heap.size < wr.heap.size := (Array.getElem?_eq_some_iff.1 hx).1
    by_cases hlt : k < P.length
    · obtain ⟨b, off, ca, cc, rfl, hb, c0, c1, c2, hch⟩ := HP.out k hlt
      have c0 := below_some hbel c0 hb
      have c1 := below_some hbel c1 hb
      have c2 := below_some hbel c2 hb
      have hch2 := (hch.below hbel).below (below_alloc wr (.cells #[.int .i64 P[k].epoch, .slice ca P[k].chain.length cc, .int .i64 P[k].learner] 36))
      have hz : (wr.alloc (.cells #[.int .i64 P[k].epoch, .slice ca P[k].chain.length cc, .int .i64 P[k].learner] 36)).ownsRow (w.heap.size + 1) 3 1 u5 (placesB f (P.take k)).length (intCells (placesB f (P.take k))) := hown.alloc _
      have hxz := (Below.heap_alloc wr (.cells #[.int .i64 P[k].epoch, .slice ca P[k].chain.length cc, .int .i64 P[k].learner] 36) _ hxlt).trans hx
      have HZ := Lib.hid (And.intro hz (And.intro hxz (hbel.alloc hsz (.cells #[.int .i64 P[k].epoch, .slice ca P[k].chain.length cc, .int .i64 P[k].learner] 36))))
      have hx0 := cells_of hxz 0 _ rfl
      have hx1 := cells_of hxz 1 _ rfl
      have i1' : (k : Int) < (P.length : Int) := by omega
      have i2 : (0 : Int) ≤ (k : Int) := by omega
      have hno : f P[k] = false → placesB f (P.take (k + 1)) = placesB f (P.take k) := fun h => by rw [placesB_succ f P k hlt, h]; simp
      have hye : f P[k] = true → placesB f (P.take (k + 1)) = placesB f (P.take k) ++ [(k : Int)] := fun h => by rw [placesB_succ f P k hlt, h]; simp
      have hfy : f P[k] = (inB n 1 nodes && (decide ((P[k].chain.length : Int) < copies) && (decide (P[k].learner = 0) && !P[k].chain.contains n))) := by rw [HF.out]; rfl
      have hpl2 := placesB_length f (P.take k)
      have hpl3 : (placesB f (P.take k)).length ≤ 1000 := by simp at hpl2; omega
      have HNO := Lib.hid hno
      have HYE := Lib.hid hye
      have HFY := Lib.hid hfy
      have HCH := Lib.hid hch2
      clear hno hye hfy hch hch2 hz hxz hx hbel hown hpl2
      generalize P[k] = y at *
      obtain ⟨ep, ch, le⟩ := y
      simp only at *
      obtain ⟨b1, hb1⟩ : ∃ b1, inB n 1 nodes = b1 := ⟨_, rfl⟩
      obtain ⟨b4, hb4⟩ : ∃ b4, ch.contains n = b4 := ⟨_, rfl⟩
      rw [hb1, hb4] at HFY
      have HB1 := Lib.hid hb1
      have HB4 := Lib.hid hb4
      clear hb1 hb4
      cases b1
      · go_wp2_with (first | (go_at_call 74; refine (within_any _ _ _ _).mono ?_; rintro _ w1 ⟨rfl, rfl⟩; rw [HB1.out]) | (go_at_call 75; refine (Contains_any HCH.out n).mono ?_; rintro _ w1 ⟨rfl, rfl⟩; rw [HB4.out]))
        go_roundg (P.length - (k + 1))
        case measure => omega
        case rel => exact ⟨k + 1, by omega, rfl, by go_num, by rw [HNO.out (by simp [HFY.out] <;> (intros; omega))]; exact HZ.out.1, HZ.out.2.1, HZ.out.2.2⟩
      · by_cases h2 : (ch.length : Int) < copies
        · by_cases h3 : le = 0
          · subst h3
            cases b4
            · go_wp2_with (first | (go_at_call 74; refine (within_any _ _ _ _).mono ?_; rintro _ w1 ⟨rfl, rfl⟩; rw [HB1.out]) | (go_at_call 75; refine (Contains_any HCH.out n).mono ?_; rintro _ w1 ⟨rfl, rfl⟩; rw [HB4.out]) | (at_builtin; refine wpList_append_lies _ rfl _ _ 22 rfl (w.heap.size + 1) 3 i1 _ 1 8 und_Ints ki kz0 kz1 kz2 rfl (by decide) u5 (placesB f (P.take k)).length (intCells (placesB f (P.take k))) rfl (HZ.out.1.alloc _) ⟨wr.heap.size + 1, 0, none⟩ 1 1 [.int .i64 k] rfl rfl (World.news_of_block (cs := #[.int .i64 k]) (t := 3) (fr := (0, 0)) (heap_new1 wr _ _)) (by simp [Value.oneCell']) (by decide) ?_ ?_ ?_ _ rfl ?_; (unfold maxLen; omega); (omega); (simp only [World.size_alloc]; omega); intro g7 cap7 w7 hown7 hgrow7 hat7 hlt7; have H7 := Lib.hid (And.intro hown7 hgrow7); clear hown7 hgrow7 hat7 hlt7))
              have hu7 := (upd_alloc (fun b => some b = u5.ownBlock) _ (.cells #[.int .i64 (k : Int)] 3)).trans (upd_grown H7.out.2)
              have hlo := fun g hg => (owns_lt HZ.out.1 g hg).1
              go_roundg (P.length - (k + 1))
              case measure => omega
              case rel =>
                refine ⟨k + 1, by omega, rfl, by go_num, ?_, ?_, ?_⟩
                · rw [HYE.out (by simp [HFY.out, h2])]
                  have := H7.out.1
                  simpa [intCells] using this
                · rw [hu7.block _ (by simp; omega) (fun e => by have := hlo _ e.symm; omega)]
                  exact HZ.out.2.1
                · exact HZ.out.2.2.trans (hu7.toBelow (by simp; omega) (fun b e => by have := hlo _ e.symm; omega))
            · go_wp2_with (first | (go_at_call 74; refine (within_any _ _ _ _).mono ?_; rintro _ w1 ⟨rfl, rfl⟩; rw [HB1.out]) | (go_at_call 75; refine (Contains_any HCH.out n).mono ?_; rintro _ w1 ⟨rfl, rfl⟩; rw [HB4.out]))
              go_roundg (P.length - (k + 1))
              case measure => omega
              case rel => exact ⟨k + 1, by omega, rfl, by go_num, by rw [HNO.out (by simp [HFY.out] <;> (intros; omega))]; exact HZ.out.1, HZ.out.2.1, HZ.out.2.2⟩
          · go_wp2_with (first | (go_at_call 74; refine (within_any _ _ _ _).mono ?_; rintro _ w1 ⟨rfl, rfl⟩; rw [HB1.out]) | (go_at_call 75; refine (Contains_any HCH.out n).mono ?_; rintro _ w1 ⟨rfl, rfl⟩; rw [HB4.out]))
            go_roundg (P.length - (k + 1))
            case measure => omega
            case rel => exact ⟨k + 1, by omega, rfl, by go_num, by rw [HNO.out (by simp [HFY.out] <;> (intros; omega))]; exact HZ.out.1, HZ.out.2.1, HZ.out.2.2⟩
        · go_wp2_with (first | (go_at_call 74; refine (within_any _ _ _ _).mono ?_; rintro _ w1 ⟨rfl, rfl⟩; rw [HB1.out]) | (go_at_call 75; refine (Contains_any HCH.out n).mono ?_; rintro _ w1 ⟨rfl, rfl⟩; rw [HB4.out]))
          go_roundg (P.length - (k + 1))
          case measure => omega
          case rel => exact ⟨k + 1, by omega, rfl, by go_num, by rw [HNO.out (by simp [HFY.out] <;> (intros; omega))]; exact HZ.out.1, HZ.out.2.1, HZ.out.2.2⟩
    · have i1' : ¬ (k : Int) < (P.length : Int) := by omega
      have hkl : P.take k = P := List.take_of_length_le (by omega)
      rw [hkl] at hown
      have HO := Lib.hid hown
      clear hown hkl hx
      go_wp2
      go_ret
      exact ⟨_, rfl, IntsRd.of_owns HO.out, hbel⟩
end Go.Proofs.YtcpaaleogmiamaaGreatDoor
namespace Go.Proofs.YtcpaaleogmiamaaGreatDoor

def bootL (L : List (Int × Int)) (x : Int × Int) : List (Int × Int) := if hasLife L x.1 then L.set (lifeAt L x.1) x else L.take (lifeAt L x.1) ++ x :: L.drop (lifeAt L x.1)
def holdsB (n : Int) (y : Pt) : Bool := decide (y.learner = n) || y.chain.contains n

end Go.Proofs.YtcpaaleogmiamaaGreatDoor
namespace Go.Proofs.YtcpaaleogmiamaaGreatDoor
open Go.RowKit

def Booted (w : World) (N pb : Nat) (p : Pl) (x : Event) (e : Ending) (w' : World) : Prop :=
  ∃ (pa la : Option Addr) (pc lc : Nat) (m : List (Value × Pt)) (tv : Value), e = .returned (.tuple #[tv, .int .i64 0]) ∧ PlanOwn w' N pb ⟨p.nodes, p.copies, p.parts, bootL p.lives (x.node, x.n)⟩ pa pc la lc m ∧
    w'.ownsRow w.heap.size 3 1 tv (placesB (holdsB x.node) p.parts).length (intCells (placesB (holdsB x.node) p.parts)) ∧ Below N w w'

set_option maxRecDepth 100000 in
set_option maxHeartbeats 4000000 in
theorem boot_old {w : World} {N pb : Nat} {p : Pl} {pa : Option Addr} {pc : Nat} {la : Option Addr} {lc : Nat} {m : List (Value × Pt)} (h : PlanOwn w N pb p pa pc la lc m) (hr : Rising p.lives) (hL : p.lives.length ≤ 1000) (x : Event) (hold : x.n ≤ lifeP p.lives x.node) :
    Calls Tryz.prog 139 #[.pointer (some ⟨pb, 0, none⟩), x.v] w fun e w' => e = .returned (.tuple #[.slice none 0 0, .int .i64 21]) ∧ Below w.heap.size w w' := by
  obtain ⟨k, nd, pt, cn⟩ := x
  simp only [Event.v] at *
  have hw1 := below_alloc w (.cells #[.int .i64 k, .int .i64 nd, .int .i64 pt, .int .i64 cn] 58)
  obtain ⟨wa, hwa⟩ : ∃ wa, wa = w.alloc (.cells #[.int .i64 k, .int .i64 nd, .int .i64 pt, .int .i64 cn] 58) := ⟨_, rfl⟩
  have hx : wa.heap[w.heap.size]? = some (.cells #[.int .i64 k, .int .i64 nd, .int .i64 pt, .int .i64 cn] 58 (0, 0)) := by rw [hwa]; exact heap_alloc_new _ _
  rw [← hwa] at hw1
  have hsz : wa.heap.size = w.heap.size + 1 := by rw [hwa]; simp
  have hkeep : ∀ W, Below wa.heap.size wa W → W.cell? ⟨pb, 0, none⟩ = some (.int .i64 p.nodes) ∧ W.cell? ⟨pb, 1, none⟩ = some (.int .i64 p.copies) ∧ W.cell? ⟨pb, 2, none⟩ = some (.slice pa p.parts.length pc) ∧ W.cell? ⟨pb, 3, none⟩ = some (.slice la p.lives.length lc) ∧
      W.cell? ⟨w.heap.size, 1, none⟩ = some (.int .i64 nd) ∧ W.cell? ⟨w.heap.size, 3, none⟩ = some (.int .i64 cn) := by
    intro W hb
    have h2 := ((h.below hw1).below hb).blk
    have h3 := (hb.block w.heap.size (by omega)).trans hx
    exact ⟨cells_of h2 0 _ rfl, cells_of h2 1 _ rfl, cells_of h2 2 _ rfl, cells_of h2 3 _ rfl, cells_of h3 1 _ rfl, cells_of h3 3 _ rfl⟩
  have hrd := fun W (hb : Below wa.heap.size wa W) => ((h.below hw1).below hb).rd
  have HK := Lib.hid hkeep
  have HRD := Lib.hid hrd
  have hpb := h.lt
  clear hkeep hrd h
  go_enter Tryz.func139, Tryz.ntmps139
  go_upto_region 1 with fail
  rw [← hwa]
  clear hwa
  go_region_held3 (fun w' => w'.cell? ⟨pb, 0, none⟩ = some (.int .i64 p.nodes) ∧ w'.cell? ⟨pb, 1, none⟩ = some (.int .i64 p.copies) ∧ w'.cell? ⟨pb, 2, none⟩ = some (.slice pa p.parts.length pc) ∧ w'.cell? ⟨pb, 3, none⟩ = some (.slice la p.lives.length lc) ∧
      w'.cell? ⟨w.heap.size, 1, none⟩ = some (.int .i64 nd) ∧ w'.cell? ⟨w.heap.size, 3, none⟩ = some (.int .i64 cn))
    (first | with_reducible exact HK.out _ (Below.refl _ _).drew | (have hg := hb5; with_reducible exact HK.out _ hb5))
    (first
      | (go_at_call 134; refine (Life_any (HRD.out _ (Below.refl _ _).drew) hr hL nd).mono ?_; rintro e w5 ⟨rfl, hb5'⟩; have hb5 : Below wa.heap.size wa w5 := (Below.refl _ wa).drew.trans (hb5'.mono (Nat.le_refl _))))
  go_wp2
  exact bodyPost_ret (v := .tuple #[.slice none 0 0, .int .i64 21]) (by simp [results, Tryz.results139, go_sem]) rfl ⟨rfl, hw1.trans (hb5.mono hw1.size)⟩

set_option maxRecDepth 100000 in
set_option maxHeartbeats 4000000 in
theorem boot_new {w : World} {N pb : Nat} {p : Pl} {pa : Option Addr} {pc : Nat} {la : Option Addr} {lc : Nat} {m : List (Value × Pt)} (h : PlanOwn w N pb p pa pc la lc m) (hr : Rising p.lives) (hs : SmallP p) (x : Event) (hnew : ¬ x.n ≤ lifeP p.lives x.node) :
    Calls Tryz.prog 139 #[.pointer (some ⟨pb, 0, none⟩), x.v] w (Booted w N pb p x) := by
  obtain ⟨k, nd, pt, cn⟩ := x
  unfold Booted
  simp only [Event.v] at *
  have hL := hs.lives
  have hw1 := below_alloc w (.cells #[.int .i64 k, .int .i64 nd, .int .i64 pt, .int .i64 cn] 58)
  obtain ⟨wa, hwa⟩ : ∃ wa, wa = w.alloc (.cells #[.int .i64 k, .int .i64 nd, .int .i64 pt, .int .i64 cn] 58) := ⟨_, rfl⟩
  have hx : wa.heap[w.heap.size]? = some (.cells #[.int .i64 k, .int .i64 nd, .int .i64 pt, .int .i64 cn] 58 (0, 0)) := by rw [hwa]; exact heap_alloc_new _ _
  rw [← hwa] at hw1
  have hsz : wa.heap.size = w.heap.size + 1 := by rw [hwa]; simp
  have hown := fun W (hb : Below wa.heap.size wa W) => (h.below hw1).below hb
  have hxk := fun W (hb : Below wa.heap.size wa W) => (hb.block w.heap.size (by omega)).trans hx
  have hkeep : ∀ W, Below wa.heap.size wa W → W.cell? ⟨pb, 0, none⟩ = some (.int .i64 p.nodes) ∧ W.cell? ⟨pb, 1, none⟩ = some (.int .i64 p.copies) ∧ W.cell? ⟨pb, 2, none⟩ = some (.slice pa p.parts.length pc) ∧ W.cell? ⟨pb, 3, none⟩ = some (.slice la p.lives.length lc) ∧
      W.cell? ⟨w.heap.size, 1, none⟩ = some (.int .i64 nd) ∧ W.cell? ⟨w.heap.size, 3, none⟩ = some (.int .i64 cn) := by
    intro W hb
    have h2 := (hown W hb).blk
    have h3 := hxk W hb
    exact ⟨cells_of h2 0 _ rfl, cells_of h2 1 _ rfl, cells_of h2 2 _ rfl, cells_of h2 3 _ rfl, cells_of h3 1 _ rfl, cells_of h3 3 _ rfl⟩
  have HK := Lib.hid hkeep
  have HOW := Lib.hid hown
  have HXK := Lib.hid hxk
  have hpb := h.lt
  have hlow := h.low
  clear hkeep hown hxk h hx
  go_enter Tryz.func139, Tryz.ntmps139
  go_upto_region 1 with fail
  rw [← hwa]
  clear hwa
  go_region_held3 (fun w' => w'.cell? ⟨pb, 0, none⟩ = some (.int .i64 p.nodes) ∧ w'.cell? ⟨pb, 1, none⟩ = some (.int .i64 p.copies) ∧ w'.cell? ⟨pb, 2, none⟩ = some (.slice pa p.parts.length pc) ∧ w'.cell? ⟨pb, 3, none⟩ = some (.slice la p.lives.length lc) ∧
      w'.cell? ⟨w.heap.size, 1, none⟩ = some (.int .i64 nd) ∧ w'.cell? ⟨w.heap.size, 3, none⟩ = some (.int .i64 cn))
    (first | with_reducible exact HK.out _ (Below.refl _ _).drew | (have hg := hb5; with_reducible exact HK.out _ hb5))
    (first
      | (go_at_call 134; refine (Life_any (HOW.out _ (Below.refl _ _).drew).rd hr hL nd).mono ?_; rintro e w5 ⟨rfl, hb5'⟩; have hb5 : Below wa.heap.size wa w5 := (Below.refl _ wa).drew.trans (hb5'.mono (Nat.le_refl _))))
  have HB5 := Lib.hid hb5
  have hsz5 := hb5.size
  obtain ⟨-, -, -, -, y1, y3⟩ := HK.out _ hb5
  clear hb5 hb5'
  go_upto_region 4 with fail
  have HB6 := Lib.hid (HB5.out.alloc hsz5 (.cells #[.int .i64 nd, .int .i64 cn] 134))
  have hlb : (w5.alloc (.cells #[.int .i64 nd, .int .i64 cn] 134)).heap[w5.heap.size]? = some (.cells #[.int .i64 nd, .int .i64 cn] 134 (0, 0)) := heap_alloc_new _ _
  have hsz6 : (w5.alloc (.cells #[.int .i64 nd, .int .i64 cn] 134)).heap.size = w5.heap.size + 1 := by simp
  generalize w5.alloc (.cells #[.int .i64 nd, .int .i64 cn] 134) = wb at *
  clear y1 y3
  go_region_held3 (fun w' => w'.cell? ⟨pb, 0, none⟩ = some (.int .i64 p.nodes) ∧ w'.cell? ⟨pb, 1, none⟩ = some (.int .i64 p.copies) ∧ w'.cell? ⟨pb, 2, none⟩ = some (.slice pa p.parts.length pc) ∧ w'.cell? ⟨pb, 3, none⟩ = some (.slice la p.lives.length lc) ∧
      w'.cell? ⟨w.heap.size, 1, none⟩ = some (.int .i64 nd) ∧ w'.cell? ⟨w.heap.size, 3, none⟩ = some (.int .i64 cn))
    (first | with_reducible exact HK.out _ HB6.out.drew | (have hg := hb7; with_reducible exact HK.out _ hb7))
    (first
      | (go_at_call 174; refine (find_any (HOW.out _ HB6.out.drew).rd hr hL nd).mono ?_; rintro e w7 ⟨rfl, hb7'⟩; have hb7w : Below wb.heap.size wb w7 := (Below.refl _ wb).drew.trans (hb7'.mono (Nat.le_refl _)); have hb7 : Below wa.heap.size wa w7 := HB6.out.trans (hb7w.mono HB6.out.size)))
  have hlb7 := (hb7w.block w5.heap.size (by omega)).trans hlb
  have hown7 := HOW.out _ hb7
  have H7 := Lib.hid (And.intro hown7 (And.intro (HXK.out _ hb7) (And.intro hb7 (And.intro hlb7 hb7w.size))))
  have l0 := cells_of hlb7 0 _ rfl
  have l1 := cells_of hlb7 1 _ rfl
  obtain ⟨-, -, -, d3, -, -⟩ := HK.out _ hb7
  have fd3 : w7.frozen? ⟨pb, 3, none⟩ = false := frozen_of hown7.blk
  clear hlb hb7 hb7' hb7w hlb7 hown7
  obtain ⟨hb, hhb⟩ : ∃ hb, hasLife p.lives nd = hb := ⟨_, rfl⟩
  rw [hhb]
  go_upto_if 34 with fail
  go_cut [] from 35 to 52 (fun wd => ∃ (la' : Option Addr) (lc' : Nat), PlanOwn wd N pb ⟨p.nodes, p.copies, p.parts, bootL p.lives (nd, cn)⟩ pa pc la' lc' m ∧ wd.heap[w.heap.size]? = some (.cells #[.int .i64 k, .int .i64 nd, .int .i64 pt, .int .i64 cn] 58 (0, 0)) ∧ Below N w wd ∧ w.heap.size ≤ wd.heap.size)
  case first =>
    have hi0 : lifeAt p.lives nd ≤ p.lives.length := by unfold lifeAt; exact List.countP_le_length
    cases hb
    · have hh := hhb
      have hbl : bootL p.lives (nd, cn) = p.lives.take (lifeAt p.lives nd) ++ (nd, cn) :: p.lives.drop (lifeAt p.lives nd) := by simp [bootL, hh]
      have hlen : (bootL p.lives (nd, cn)).length = p.lives.length + 1 := by rw [hbl]; simp; omega
      have hins : ∀ W, Below w7.heap.size w7 W → W.heap[w7.heap.size]? = some (.cells #[.int .i64 nd, .int .i64 cn] 134 (0, 0)) →
          Calls Tryz.prog 178 #[.slice la p.lives.length lc, .int .i64 (lifeAt p.lives nd), .slice (some ⟨w7.heap.size, 0, none⟩) 1 1] W fun e w8 =>
            ∃ la' lc', e = .returned (.slice la' (p.lives.length + 1) lc') ∧ w8.cell? ⟨pb, 3, none⟩ = some (.slice la p.lives.length lc) ∧ w8.frozen? ⟨pb, 3, none⟩ = false ∧
              PlanOwn (w8.setCell ⟨pb, 3, none⟩ (.slice la' (p.lives.length + 1) lc')) N pb ⟨p.nodes, p.copies, p.parts, bootL p.lives (nd, cn)⟩ pa pc la' lc' m ∧ Upd (fun b => some b = (Value.slice la p.lives.length lc).ownBlock ∨ b = pb) w7 (w8.setCell ⟨pb, 3, none⟩ (.slice la' (p.lives.length + 1) lc')) := by
        intro W hb hv
        have hW := H7.out.1.below hb
        refine (Insert_any hW.lives rfl (Nat.le_trans hlow (Nat.le_of_lt hW.lt)) hL hv (fun g hg e => ?_) hi0).mono ?_
        · have := (owns_lt H7.out.1.lives g hg).2; omega
        · rintro e w8 ⟨la', lc', rfl, hown8, hu8⟩
          have hF : ∀ k, some k = (Value.slice la p.lives.length lc).ownBlock → ∃ cur, W.heap[k]? = some (.cells cur 134 (0, 0)) := fun k e => owns_block hW.lives k e.symm
          have hpne : ¬ some pb = (Value.slice la p.lives.length lc).ownBlock := fun e => by obtain ⟨c, hc⟩ := hF pb e; exact block_ne hc hW.blk (by decide) rfl
          have hbk := (hu8.block pb hW.lt hpne).trans hW.blk
          have hown8' : w8.ownsRow N 134 2 (.slice la' (bootL p.lives (nd, cn)).length lc') (bootL p.lives (nd, cn)).length (lifeCells (bootL p.lives (nd, cn))) := by rw [hlen, hbl]; exact hown8
          have hset := hW.setLives hu8 hF hown8'
          rw [hlen] at hset
          exact ⟨la', lc', rfl, cells_of hbk 3 _ rfl, frozen_of hbk, hset, ((Upd.of_below hb).trans (hu8.mono (fun b _ e => .inl e))).trans ((upd_set1 w8 pb 3 _).mono (fun b _ e => .inr e))⟩
      have HINS := Lib.hid hins
      have hd3 : ∀ o, (w7.alloc o).cell? ⟨pb, 3, none⟩ = some (.slice la p.lives.length lc) := fun o => below_some (below_alloc _ _) d3 (World.block_lt_of_cell? _ _ d3)
      have hl0 : ∀ o, (w7.alloc o).cell? ⟨w5.heap.size, 0, none⟩ = some (.int .i64 nd) := fun o => below_some (below_alloc _ _) l0 (World.block_lt_of_cell? _ _ l0)
      have hl1 : ∀ o, (w7.alloc o).cell? ⟨w5.heap.size, 1, none⟩ = some (.int .i64 cn) := fun o => below_some (below_alloc _ _) l1 (World.block_lt_of_cell? _ _ l1)
      clear hins
      generalize lifeAt p.lives nd = i at *
      go_wp2
      go_region_law
        (first
          | (go_simp; go_at_call 178; refine (HINS.out _ ?_ ?_).mono ?_; (first | exact (below_alloc _ _).drew | exact (below_alloc _ _) | exact (Below.refl _ _).drew.alloc (Nat.le_refl _) _); exact heap_alloc_new _ _; rintro e w8 ⟨la', lc', rfl, c83, f83, hset8, hu8⟩))
      all_goals
        go_wp2_with fail
        go_meet
        have hne : w.heap.size ≠ pb := by omega
        have hnl : ¬ some w.heap.size = (Value.slice la p.lives.length lc).ownBlock := fun e => by obtain ⟨c, hc⟩ := owns_block H7.out.1.lives _ e.symm; exact block_ne hc H7.out.2.1 (by decide) rfl
        have hw7 : w.heap.size < w7.heap.size := (Array.getElem?_eq_some_iff.1 H7.out.2.1).1
        refine ⟨la', lc', hset8, ?_, ?_, ?_⟩
        · rw [hu8.block _ hw7 (fun e => e.elim hnl hne)]; exact H7.out.2.1
        · exact ((hw1.mono (by omega)).trans (H7.out.2.2.1.mono (by omega))).trans (hu8.toBelow (by omega) (fun b e => e.elim (fun e => (owns_lt H7.out.1.lives b e.symm).1) (fun e => by omega)))
        · have := hu8.size; omega
    · have hh := hhb
      obtain ⟨hi, e1, -⟩ := life_at hr hh
      have hbl : bootL p.lives (nd, cn) = p.lives.set (lifeAt p.lives nd) (nd, cn) := by simp [bootL, hh]
      obtain ⟨g, hla⟩ : ∃ g, la = some ⟨g, 0, none⟩ := by
        rcases H7.out.1.lives.2 with ⟨h1, h2⟩ | ⟨g, cap, cur, h1, -⟩
        · omega
        · simp only [Value.slice.injEq] at h1; exact ⟨g, h1.1⟩
      subst hla
      have hs1 := H7.out.1.setLife _ hi (nd, cn)
      rw [← hbl] at hs1
      have HS1 := Lib.hid hs1
      have hlg := lifeCells_get p.lives _ hi
      have hll := lifeCells_length p.lives
      have k0 := (H7.out.1.lives.cellAt (lifeAt p.lives nd * 2) (by omega)).trans hlg.1
      have k1 := (H7.out.1.lives.cellAt (lifeAt p.lives nd * 2 + 1) (by omega)).trans hlg.2
      have f0 := H7.out.1.lives.frozenAt (lifeAt p.lives nd * 2)
      have f1 := H7.out.1.lives.frozenAt (lifeAt p.lives nd * 2 + 1)
      have hbk := H7.out.1.lives
      have i1 : ((lifeAt p.lives nd : Nat) : Int) < (p.lives.length : Int) := by omega
      have i2 : (0 : Int) ≤ ((lifeAt p.lives nd : Nat) : Int) := by omega
      clear hs1 hlg hbl e1 hbk
      have HBL := Lib.hid hh
      clear hh hhb
      generalize lifeAt p.lives nd = i at *
      generalize p.lives[i].1 = z0 at *
      generalize p.lives[i].2 = z1 at *
      have i3 : i < p.lives.length := by omega
      have hg7 := (owns_lt H7.out.1.lives g rfl)
      have hgx : w.heap.size ≠ g := fun e => by obtain ⟨c, hc⟩ := owns_block H7.out.1.lives g rfl; exact block_ne H7.out.2.1 hc (by decide) e
      go_wp2
      go_region
      all_goals
        go_wp2_with fail
        go_meet
        have hu8 := ((upd_set1 w7 g (i * 2) (.int .i64 nd)).trans (upd_set1 _ g (i * 2 + 1) (.int .i64 cn))).thenBelow ((Below.refl _ _).drew)
        have hw7 : w.heap.size < w7.heap.size := (Array.getElem?_eq_some_iff.1 H7.out.2.1).1
        refine ⟨some ⟨g, 0, none⟩, lc, HS1.out.below ((Below.refl _ _).drew), ?_, ?_, ?_⟩
        · rw [hu8.block _ hw7 hgx]; exact H7.out.2.1
        · exact ((hw1.mono (by omega)).trans (H7.out.2.2.1.mono (by omega))).trans (hu8.toBelow (by omega) (fun b e => by omega))
        · have := hu8.size; omega
  case rest =>
    obtain ⟨la', lc', hown, hx, hbel, hsz9⟩ := hcut
    clear HB5 HB6 hsz5 hsz6
    obtain ⟨i1, ki, kz0, kz1, kz2⟩ := info_parts info_Int
    have hblk := hown.blk
    have c2 := cells_of hblk 2 _ rfl
    have hP := hown.parts.rd
    rw [hown.eq] at hP
    obtain ⟨pa2, pc2, e2, -, -, hP⟩ := hP.cells
    simp only [Value.slice.injEq, true_and] at e2
    obtain ⟨rfl, rfl⟩ := e2
    have HP := Lib.hid hP
    have HOWN := Lib.hid (And.intro hown (And.intro hbel hx))
    have hpl := hs.parts
    have hcs := hown.lt
    have hwc : w.heap.size < wc.heap.size := (Array.getElem?_eq_some_iff.1 hx).1
    clear hown hP hblk hx hbel
    obtain ⟨f, hf⟩ : ∃ f : Pt → Bool, f = holdsB nd := ⟨_, rfl⟩
    have HF := Lib.hid hf
    clear hf
    go_wp2
    go_loopg [4, 9, 10, 58] p.parts.length (fun gk out _ _ i wr => ∃ (k : Nat), k ≤ p.parts.length ∧ gk = p.parts.length - k ∧ i = .int .i64 k ∧ wr.ownsRow wc.heap.size 3 1 out (placesB f (p.parts.take k)).length (intCells (placesB f (p.parts.take k))) ∧ Below wc.heap.size wc wr)
    case atStart => exact ⟨0, Nat.zero_le _, rfl, rfl, World.ownsRow_nil _ _ _ _, Below.refl _ _⟩
    case round =>
      clear c2
      obtain ⟨k, hk, rfl, rfl, hown, hbel⟩ := hrel
      have HX := Lib.hid (And.intro hown hbel)
      have hsz := hbel.size
      by_cases hlt : k < p.parts.length
      · obtain ⟨b, off, ca, cc, rfl, hb, c0, c1, c2, hch⟩ := HP.out k hlt
        have c0 := below_some hbel c0 hb
        have c1 := below_some hbel c1 hb
        have c2 := below_some hbel c2 hb
        have hch2 := (hch.below hbel).below (below_alloc wr (.cells #[.int .i64 p.parts[k].epoch, .slice ca p.parts[k].chain.length cc, .int .i64 p.parts[k].learner] 36))
        have hz : (wr.alloc (.cells #[.int .i64 p.parts[k].epoch, .slice ca p.parts[k].chain.length cc, .int .i64 p.parts[k].learner] 36)).ownsRow wc.heap.size 3 1 u4 (placesB f (p.parts.take k)).length (intCells (placesB f (p.parts.take k))) := hown.alloc _
        have hxw := (hbel.block w.heap.size hwc).trans HOWN.out.2.2
        have hxz := (Below.heap_alloc wr (.cells #[.int .i64 p.parts[k].epoch, .slice ca p.parts[k].chain.length cc, .int .i64 p.parts[k].learner] 36) _ (by omega)).trans hxw
        have HZ := Lib.hid (And.intro hz (hbel.alloc hsz (.cells #[.int .i64 p.parts[k].epoch, .slice ca p.parts[k].chain.length cc, .int .i64 p.parts[k].learner] 36)))
        have hx1 := cells_of hxz 1 _ rfl
        have i1' : (k : Int) < (p.parts.length : Int) := by omega
        have i2 : (0 : Int) ≤ (k : Int) := by omega
        have hno : f p.parts[k] = false → placesB f (p.parts.take (k + 1)) = placesB f (p.parts.take k) := fun h => by rw [placesB_succ f p.parts k hlt, h]; simp
        have hye : f p.parts[k] = true → placesB f (p.parts.take (k + 1)) = placesB f (p.parts.take k) ++ [(k : Int)] := fun h => by rw [placesB_succ f p.parts k hlt, h]; simp
        have hfy : f p.parts[k] = (decide (p.parts[k].learner = nd) || p.parts[k].chain.contains nd) := by rw [HF.out]; rfl
        have hpl2 := placesB_length f (p.parts.take k)
        have hpl3 : (placesB f (p.parts.take k)).length ≤ 1000 := by simp at hpl2; omega
        have HNO := Lib.hid hno
        have HYE := Lib.hid hye
        have HFY := Lib.hid hfy
        have HCH := Lib.hid hch2
        clear hno hye hfy hch hch2 hz hxz hxw hbel hown hpl2
        generalize p.parts[k] = y at *
        obtain ⟨ep, ch, le⟩ := y
        simp only at *
        obtain ⟨b4, hb4⟩ : ∃ b4, ch.contains nd = b4 := ⟨_, rfl⟩
        rw [hb4] at HFY
        have HB4 := Lib.hid hb4
        clear hb4
        by_cases h3 : le = nd
        · subst h3
          go_wp2_with (first | (at_builtin; refine wpList_append_lies _ rfl _ _ 22 rfl wc.heap.size 3 i1 _ 1 8 und_Ints ki kz0 kz1 kz2 rfl (by decide) u4 (placesB f (p.parts.take k)).length (intCells (placesB f (p.parts.take k))) rfl (HZ.out.1.alloc _) ⟨wr.heap.size + 1, 0, none⟩ 1 1 [.int .i64 k] rfl rfl (World.news_of_block (cs := #[.int .i64 k]) (t := 3) (fr := (0, 0)) (heap_new1 wr _ _)) (by simp [Value.oneCell']) (by decide) ?_ ?_ ?_ _ rfl ?_; (unfold maxLen; omega); (omega); (simp only [World.size_alloc]; omega); intro g7 cap7 w8 hown8 hgrow8 hat8 hlt8; have H8 := Lib.hid (And.intro hown8 hgrow8); clear hown8 hgrow8 hat8 hlt8))
          have hu8 := (upd_alloc (fun b => some b = u4.ownBlock) _ (.cells #[.int .i64 (k : Int)] 3)).trans (upd_grown H8.out.2)
          have hlo := fun g hg => (owns_lt HZ.out.1 g hg).1
          go_roundg (p.parts.length - (k + 1))
          case measure => omega
          case rel =>
            refine ⟨k + 1, by omega, rfl, by go_num, ?_, ?_⟩
            · rw [HYE.out (by simp [HFY.out])]
              have := H8.out.1
              simpa [intCells] using this
            · exact HZ.out.2.trans (hu8.toBelow (by simp; omega) (fun b e => by have := hlo _ e.symm; omega))
        · cases b4
          · go_wp2_with (first | (go_at_call 75; refine (Contains_any HCH.out nd).mono ?_; rintro _ w1 ⟨rfl, rfl⟩; rw [HB4.out]))
            go_roundg (p.parts.length - (k + 1))
            case measure => omega
            case rel => exact ⟨k + 1, by omega, rfl, by go_num, by rw [HNO.out (by simp [HFY.out, h3])]; exact HZ.out.1, HZ.out.2⟩
          · go_wp2_with (first | (go_at_call 75; refine (Contains_any HCH.out nd).mono ?_; rintro _ w1 ⟨rfl, rfl⟩; rw [HB4.out]) | (at_builtin; refine wpList_append_lies _ rfl _ _ 22 rfl wc.heap.size 3 i1 _ 1 8 und_Ints ki kz0 kz1 kz2 rfl (by decide) u4 (placesB f (p.parts.take k)).length (intCells (placesB f (p.parts.take k))) rfl (HZ.out.1.alloc _) ⟨wr.heap.size + 1, 0, none⟩ 1 1 [.int .i64 k] rfl rfl (World.news_of_block (cs := #[.int .i64 k]) (t := 3) (fr := (0, 0)) (heap_new1 wr _ _)) (by simp [Value.oneCell']) (by decide) ?_ ?_ ?_ _ rfl ?_; (unfold maxLen; omega); (omega); (simp only [World.size_alloc]; omega); intro g7 cap7 w8 hown8 hgrow8 hat8 hlt8; have H8 := Lib.hid (And.intro hown8 hgrow8); clear hown8 hgrow8 hat8 hlt8))
            have hu8 := (upd_alloc (fun b => some b = u4.ownBlock) _ (.cells #[.int .i64 (k : Int)] 3)).trans (upd_grown H8.out.2)
            have hlo := fun g hg => (owns_lt HZ.out.1 g hg).1
            go_roundg (p.parts.length - (k + 1))
            case measure => omega
            case rel =>
              refine ⟨k + 1, by omega, rfl, by go_num, ?_, ?_⟩
              · rw [HYE.out (by simp [HFY.out])]
                have := H8.out.1
                simpa [intCells] using this
              · exact HZ.out.2.trans (hu8.toBelow (by simp; omega) (fun b e => by have := hlo _ e.symm; omega))
      · have i1' : ¬ (k : Int) < (p.parts.length : Int) := by omega
        have hkl : p.parts.take k = p.parts := List.take_of_length_le (by omega)
        rw [hkl, HF.out] at hown
        have HO := Lib.hid hown
        clear hown hkl
        go_wp2
        have hz := HOWN.out.1.below hbel
        exact bodyPost_ret (v := .tuple #[u4, .int .i64 0]) (by simp [results, Tryz.results139, go_sem]) rfl ⟨_, _, _, _, _, _, rfl, hz, owns_mono HO.out hsz9, HOWN.out.2.1.trans (hbel.mono (by have := HOWN.out.1.low; omega))⟩
end Go.Proofs.YtcpaaleogmiamaaGreatDoor
