/- A plan whose words lie above a mark: it is read whatever is written below. -/
/- The walk of plan.New. -/
import Derived.Test.YtcpaaleogmiamaaGreatDoorMs45
import Derived.Test.YtcpaaleogmiamaaGreatDoorMs43
namespace Go.Proofs.YtcpaaleogmiamaaGreatDoor
open Go.RowKit

def PlanFrom (w : World) (N : Nat) (v : Value) (p : Pl) : Prop := ∀ (F : Nat → Prop) (W : World), (∀ k, F k → k < N) → Upd F w W → PlanRd W v p

theorem PlanFrom.rd {w : World} {N : Nat} {v : Value} {p : Pl} (h : PlanFrom w N v p) : PlanRd w v p := h (fun _ => False) w (fun _ h => h.elim) (Upd.refl _ _)

theorem PlanFrom.below {w w' : World} {N : Nat} {v : Value} {p : Pl} (h : PlanFrom w N v p) (hb : Below w.heap.size w w') : PlanFrom w' N v p :=
  fun F W hF hu => h F W hF (((Upd.of_below (F := F) hb)).trans hu)

theorem PlanFrom.mono {w : World} {N N' : Nat} {v : Value} {p : Pl} (h : PlanFrom w N v p) (hn : N' ≤ N) : PlanFrom w N' v p :=
  fun F W hF hu => h F W (fun k hk => by have := hF k hk; omega) hu

theorem PlanFrom.upd {w w' : World} {F : Nat → Prop} {N : Nat} {v : Value} {p : Pl} (h : PlanFrom w N v p) (hu : Upd F w w') (hF : ∀ k, F k → k < N) : PlanFrom w' N v p :=
  fun G W hG hu2 => h (fun k => F k ∨ G k) W (fun k hk => hk.elim (hF k) (hG k)) ((hu.mono (fun _ _ h => .inl h)).trans (hu2.mono (fun _ _ h => .inr h)))

/-- Parts and lives that the call owns. -/
theorem PlanFrom.of_owns {w : World} {N : Nat} {p : Pl} {pa la : Option Addr} {pc lc : Nat} {m : List (Value × Pt)} (h : OwnP w N (.slice pa p.parts.length pc) m) (he : m.map (·.2) = p.parts)
    (hl : w.ownsRow N 134 2 (.slice la p.lives.length lc) p.lives.length (lifeCells p.lives)) : PlanFrom w N (planV p pa pc la lc) p := by
  intro F W hF hu
  have h2 := h.low hu hF
  have hl2 := owns_upd hl hu (fun g hg hf => by have := (owns_lt hl g hg).1; have := hF g hf; omega)
  exact ⟨_, _, rfl, by have := h2.rd; rw [he] at this; exact this, LivesRd.of_owns hl2⟩

theorem PlanFrom.zero (w : World) (N : Nat) : PlanFrom w N (.agg #[.int .i64 0, .int .i64 0, .slice none 0 0, .slice none 0 0]) .zero :=
  fun _ _ _ _ => ⟨_, _, rfl, ⟨[], rfl, ⟨rfl, .inl ⟨rfl, rfl⟩⟩, by simp⟩, ⟨rfl, .inl ⟨rfl, rfl⟩⟩⟩

theorem PlanOwn.toFrom {w : World} {N pb : Nat} {p : Pl} {pa : Option Addr} {pc : Nat} {la : Option Addr} {lc : Nat} {m : List (Value × Pt)} (h : PlanOwn w N pb p pa pc la lc m) : PlanFrom w N (planV p pa pc la lc) p :=
  PlanFrom.of_owns h.parts h.eq h.lives
end Go.Proofs.YtcpaaleogmiamaaGreatDoor
namespace Go.Proofs.YtcpaaleogmiamaaGreatDoor
open Go.RowKit

abbrev cfgV (n k p c a b d e : Int) : Value := .agg #[.int .i64 n, .int .i64 k, .int .i64 p, .int .i64 c, .int .i64 a, .int .i64 b, .int .i64 d, .int .i64 e]
def newOkB (n p c : Int) : Bool := inB n 1 5 && inB c 1 n && inB p 2 4
def newP (n p c : Nat) : Pl := ⟨n, c, (List.range p).map (fun i => placeP i n c), []⟩
abbrev zeroPlan : Value := .agg #[.int .i64 0, .int .i64 0, .slice none 0 0, .slice none 0 0]

set_option maxRecDepth 100000 in
set_option maxHeartbeats 2000000 in
theorem New_no (n k p c a b d e' : Int) (w : World) (h : newOkB n p c = false) : Calls Tryz.prog 61 #[cfgV n k p c a b d e'] w fun e w' =>
    e = .returned (.tuple #[zeroPlan, .int .i64 1]) ∧ Below w.heap.size w w' := by
  by_cases h1 : inB n 1 5 = true
  · by_cases h2 : inB c 1 n = true
    · have h3 : inB p 2 4 = false := by simpa [newOkB, h1, h2] using h
      go_enter Tryz.func61, Tryz.ntmps61
      go_wp2_with (first | (go_at_call 74; refine (within_any _ _ _ _).mono ?_; rintro _ w1 ⟨rfl, rfl⟩; (first | rw [h1] | rw [h2] | rw [h3])))
      refine bodyPost_ret (v := .tuple #[zeroPlan, .int .i64 1]) (by simp [results, Tryz.results61, go_sem]) rfl ⟨rfl, ?_⟩
      exact below_alloc2 _ _ _
    · have h2 : inB c 1 n = false := by simpa using h2
      go_enter Tryz.func61, Tryz.ntmps61
      go_wp2_with (first | (go_at_call 74; refine (within_any _ _ _ _).mono ?_; rintro _ w1 ⟨rfl, rfl⟩; (first | rw [h1] | rw [h2])))
      refine bodyPost_ret (v := .tuple #[zeroPlan, .int .i64 1]) (by simp [results, Tryz.results61, go_sem]) rfl ⟨rfl, below_alloc2 _ _ _⟩
  · have h1 : inB n 1 5 = false := by simpa using h1
    go_enter Tryz.func61, Tryz.ntmps61
    go_wp2_with (first | (go_at_call 74; refine (within_any _ _ _ _).mono ?_; rintro _ w1 ⟨rfl, rfl⟩; (first | rw [h1])))
    refine bodyPost_ret (v := .tuple #[zeroPlan, .int .i64 1]) (by simp [results, Tryz.results61, go_sem]) rfl ⟨rfl, below_alloc2 _ _ _⟩

set_option maxRecDepth 100000 in
set_option maxHeartbeats 2000000 in
theorem New_yes (n p c : Nat) (k0 a b d e' : Int) (w : World) (h : newOkB n p c = true) : Calls Tryz.prog 61 #[cfgV n k0 p c a b d e'] w fun e w' =>
    ∃ v, e = .returned (.tuple #[v, .int .i64 0]) ∧ PlanFrom w' w.heap.size v (newP n p c) ∧ Below w.heap.size w w' := by
  obtain ⟨h1, h2, h3⟩ : inB n 1 5 = true ∧ inB c 1 n = true ∧ inB p 2 4 = true := by simpa [newOkB, and_assoc] using h
  have q1 := inB_iff.1 h1
  have q2 := inB_iff.1 h2
  have q3 := inB_iff.1 h3
  have hn : 0 < n := by omega
  have hn5 : n ≤ 5 := by omega
  have hc5 : c ≤ 5 := by omega
  have hp4 : p ≤ 4 := by omega
  obtain ⟨i1, ki, kz0, kz1, kz2⟩ := info_parts info_Part
  go_enter Tryz.func61, Tryz.ntmps61
  go_wp2_with (first | (go_at_call 74; refine (within_any _ _ _ _).mono ?_; rintro _ w1 ⟨rfl, rfl⟩; (first | rw [h1] | rw [h2] | rw [h3])))
  go_loopg [5, 32] p (fun gk _ i wr => ∃ (k : Nat) (pa : Option Addr) (pc : Nat) (m : List (Value × Pt)), k ≤ p ∧ gk = p - k ∧ i = .int .i64 k ∧ m.length = k ∧ m.map (·.2) = (List.range k).map (fun i => placeP i n c) ∧ OwnP wr (w.heap.size + 3) (.slice pa k pc) m ∧
    wr.heap[w.heap.size + 2]? = some (.cells #[.int .i64 n, .int .i64 c, .slice pa k pc, .slice none 0 0] 52 (0, 0)) ∧ wr.heap[w.heap.size + 1]? = some (.cells #[.int .i64 0, .int .i64 0, .slice none 0 0, .slice none 0 0] 52 (0, 0)) ∧
    wr.heap[w.heap.size]? = some (.cells #[.int .i64 n, .int .i64 k0, .int .i64 p, .int .i64 c, .int .i64 a, .int .i64 b, .int .i64 d, .int .i64 e'] 25 (0, 0)) ∧ Below w.heap.size w wr)
  case atStart =>
    refine ⟨0, none, 0, [], Nat.zero_le _, rfl, rfl, rfl, rfl, OwnP.nil _ _, ?_, ?_, ?_, below_alloc3 _ _ _ _⟩
    · exact heap_new2 _ _ _ _
    · rw [Below.heap_alloc _ _ _ (by simp)]
      exact heap_new1 w _ _
    · rw [Below.heap_alloc _ _ _ (by simp; omega), Below.heap_alloc _ _ _ (by simp)]
      exact heap_alloc_new w _
  case round =>
    obtain ⟨k, pa, pc, m, hk, rfl, rfl, hml, hmp, hown, hx, h0, hcf, hbel⟩ := hrel
    have HX := Lib.hid (And.intro hml (And.intro hmp (And.intro hown (And.intro hx (And.intro h0 (And.intro hcf hbel))))))
    have hsz := hbel.size
    have hxlt : w.heap.size + 2 < wr.heap.size := (Array.getElem?_eq_some_iff.1 hx).1
    have hlo := fun g hg => (owns_lt hown.own g hg).1
    by_cases hlt : k < p
    · have i1' : (k : Int) < (p : Int) := by omega
      have i2 : (0 : Int) ≤ (k : Int) := by omega
      have hkeep : ∀ w', Upd (fun b => some b = (Value.slice pa k pc).ownBlock) wr w' → w'.cell? ⟨w.heap.size, 0, none⟩ = some (.int .i64 n) ∧ w'.cell? ⟨w.heap.size, 3, none⟩ = some (.int .i64 c) ∧
          w'.cell? ⟨w.heap.size + 2, 2, none⟩ = some (.slice pa k pc) ∧ w'.frozen? ⟨w.heap.size + 2, 2, none⟩ = false := by
        intro w' hu
        have hne2 : ¬ some (w.heap.size + 2) = (Value.slice pa k pc).ownBlock := fun e => by have := hlo _ e.symm; omega
        have hne0 : ¬ some w.heap.size = (Value.slice pa k pc).ownBlock := fun e => by have := hlo _ e.symm; omega
        have b2 := (hu.block _ hxlt hne2).trans hx
        have b0 := (hu.block _ (by omega) hne0).trans hcf
        exact ⟨cells_of b0 0 _ rfl, cells_of b0 3 _ rfl, cells_of b2 2 _ rfl, frozen_of b2⟩
      have HK := Lib.hid hkeep
      have hownk : wr.ownsRow (w.heap.size + 3) 36 3 (.slice pa k pc) k (partCells m) := by have := hown.own; rw [hml] at this; exact this
      have HOWN := Lib.hid hownk
      clear hownk
      obtain ⟨c0, c3, x2, fx⟩ := hkeep wr (Upd.refl _ _)
      obtain ⟨e0, e3, e2, -⟩ := hkeep wr.drew (upd_drew _ _)
      have HE := Lib.hid (And.intro e0 (And.intro e3 e2))
      clear e0 e3 e2
      have hb3 : w.heap.size + 3 ≤ wr.heap.size := by omega
      have HLO := Lib.hid hlo
      clear hkeep hx h0 hcf hown hmp hlo hbel
      generalize hX : w.heap.size + 2 = X at *
      have HHX := Lib.hid hX
      clear hX
      go_wp2
      go_region_law
        (first
          | (refine step_append_lies _ (by rfl) _ _ _ (by rfl) (w.heap.size + 3) 36 i1 _ 3 40 und_Parts ki kz0 kz1 kz2 rfl (by omega) (.slice pa k pc) k (partCells m) (by rfl) ((owns_upd HOWN.out hu5 (fun _ _ h => h)).alloc _) ⟨w5.heap.size, 0, none⟩ 1 1 [.int .i64 1, .slice ca c cc, .int .i64 0] (by rfl) (by rfl) (World.news_of_block (cs := #[.int .i64 1, .slice ca c cc, .int .i64 0]) (t := 36) (fr := (0, 0)) (heap_alloc_new w5 _)) (by simp [Value.oneCell']) (by omega) ?_ ?_ ?_ _ rfl ?_; (unfold maxLen; omega); omega; (first | (simp only [World.size_alloc]; omega) | omega); rintro g9 gcap9 w9 hown9 hgrow9 - hlt9; obtain ⟨_, _, c9, f9⟩ := HK.out w9 (((Upd.of_below hu5.below).trans (upd_alloc _ w5 _)).trans (upd_grown hgrow9)))
          | (go_simp; go_at_call 130; refine (place_any k n c _ hn (by omega) (by omega) (by omega)).mono ?_; rintro e w5 ⟨cv, rfl, hown5, hb5⟩; obtain ⟨ca, cc, rfl, -⟩ := (Sl.of_owns hown5).shape; have hu5 : Upd (fun _ => False) wr w5 := (upd_drew _ wr).trans (Upd.of_below hb5); have hs5 := hu5.size; obtain ⟨c50, c53, c55, f5⟩ := HK.out w5 (Upd.of_below hu5.below); have hka : ∀ o, (w5.alloc o).cell? ⟨X, 2, none⟩ = some (.slice pa k pc) := fun o => (HK.out (w5.alloc o) ((Upd.of_below hu5.below).trans (upd_alloc _ w5 o))).2.2.1))
      all_goals
        have hu9 := ((Upd.of_below (F := fun b => some b = (Value.slice pa k pc).ownBlock) hu5.below).trans (upd_alloc _ w5 (.cells #[.int .i64 1, .slice ca c cc, .int .i64 0] 36))).trans (upd_grown hgrow9)
        have hsn := HX.out.2.2.1.snoc (x := placeP k n c) hb3 hu5.below (cv := .slice ca c cc) (by have := owns_mono (base' := wr.heap.size) hown5 (Nat.le_refl _); simpa [placeP, chainP_length] using this) ((upd_alloc _ w5 (.cells #[.int .i64 1, .slice ca c cc, .int .i64 0] 36)).trans (upd_grown hgrow9)) (by rw [HX.out.1]; exact hown9)
        have HY := Lib.hid (And.intro hsn hu9)
        clear hsn hu9 hgrow9 hown9 hown5 hb5 hu5 c9 f9 hka c50 c53 c55 f5 c0 c3 x2 fx
        go_wp2
        go_roundg (p - (k + 1))
        case measure => omega
        case rel =>
          have hX := HHX.out
          obtain ⟨q1, q2, q3, q4, q5, q6, q7⟩ := HX.out
          have hlo : ∀ g, (Value.slice pa k pc).ownBlock = some g → w.heap.size + 3 ≤ g := HLO.out
          have hX2 := (HY.out.2.block X hxlt (fun e => by have := hlo _ e.symm; omega)).trans q4
          have h02 := (HY.out.2.block (w.heap.size + 1) (by omega) (fun e => by have := hlo _ e.symm; omega)).trans q5
          have hc2 := (HY.out.2.block w.heap.size (by omega) (fun e => by have := hlo _ e.symm; omega)).trans q6
          have hs9 := HY.out.2.size
          have hset := upd_set1 w9 X 2 (.slice (some ⟨g9, 0, none⟩) (k + 1) gcap9)
          refine ⟨k + 1, some ⟨g9, 0, none⟩, gcap9, m ++ [(.slice ca c cc, placeP k n c)], by omega, rfl, by go_num, by simp [q1], ?_, ?_, ?_, ?_, ?_, ?_⟩
          · rw [List.map_append, q2, List.range_succ, List.map_append]; rfl
          · exact HY.out.1.low hset (fun b e => by omega)
          · exact setCell_same hX2
          · rw [hset.block _ (by omega) (by omega)]; exact h02
          · rw [hset.block _ (by omega) (by omega)]; exact hc2
          · exact q7.trans ((HY.out.2.toBelow hsz (fun b e => by have := hlo b e.symm; omega)).trans (hset.toBelow (by omega) (fun b e => by omega)))
    · have i1' : ¬ (k : Int) < (p : Int) := by omega
      have hkp : k = p := by omega
      subst hkp
      obtain ⟨q1, q2, q3, q4, q5, q6, q7⟩ := HX.out
      have x0 := cells_of q4 0 _ rfl
      have x1 := cells_of q4 1 _ rfl
      have x2 := cells_of q4 2 _ rfl
      have x3 := cells_of q4 3 _ rfl
      have n0 := cells_of q5 0 _ rfl
      have n1 := cells_of q5 1 _ rfl
      have n2 := cells_of q5 2 _ rfl
      have n3 := cells_of q5 3 _ rfl
      have f0 := frozen_of (j := 0) q5
      have f1 := frozen_of (j := 1) q5
      have f2 := frozen_of (j := 2) q5
      have f3 := frozen_of (j := 3) q5
      have HH := Lib.hid (And.intro q2 (And.intro q3 (And.intro q5 q7)))
      clear q1 q2 q3 q4 q5 q6 q7 hx h0 hcf hown hmp hbel
      go_wp2
      obtain ⟨q2, q3, q5, q7⟩ := HH.out
      have hf := setCell_same (o := 3) (v := .slice none 0 0) (setCell_same (o := 2) (v := .slice pa k pc) (setCell_same (o := 1) (v := .int .i64 c) (setCell_same (o := 0) (v := .int .i64 n) q5)))
      have r0 := cells_of hf 0 _ rfl
      have r1 := cells_of hf 1 _ rfl
      have r2 := cells_of hf 2 _ rfl
      have r3 := cells_of hf 3 _ rfl
      have hset := upd_set4 wr (w.heap.size + 1) (.int .i64 n) (.int .i64 c) (.slice pa k pc) (.slice none 0 0)
      refine bodyPost_ret (v := .tuple #[.agg #[.int .i64 n, .int .i64 c, .slice pa k pc, .slice none 0 0], .int .i64 0]) (by simp [results, Tryz.results61, go_sem, r0, r1, r2, r3]) rfl ⟨_, rfl, ?_, ?_⟩
      · have hl1 : (newP n k c).parts.length = k := by simp [newP]
        have hl2 : (newP n k c).lives.length = 0 := by simp [newP]
        have hF := PlanFrom.of_owns (p := newP n k c) (pa := pa) (pc := pc) (la := none) (lc := 0) (m := m) (N := w.heap.size) (by rw [hl1]; exact (q3.low hset (fun b e => by omega)).mono (by omega)) (by rw [q2]; rfl) (by rw [hl2]; exact World.ownsRow_nil _ _ _ _)
        simp only [planV, hl1, hl2] at hF
        exact hF
      · exact q7.trans (hset.toBelow hsz (fun b e => by omega))
end Go.Proofs.YtcpaaleogmiamaaGreatDoor
