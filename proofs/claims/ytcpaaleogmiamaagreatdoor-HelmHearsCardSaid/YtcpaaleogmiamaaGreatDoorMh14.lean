/- A master in memory; the walks of its small functions. -/
/- The walk of plan.isEvent. -/
import Derived.Test.YtcpaaleogmiamaaGreatDoorMh9
import Derived.Test.YtcpaaleogmiamaaGreatDoorMh12
import Derived.Test.YtcpaaleogmiamaaGreatDoorMh13
import Derived.Test.YtcpaaleogmiamaaGreatDoorMh10
import Derived.BigQuiet
import Derived.Deep.RegionHeld3
import Derived.Deep.RegionLawGrows
import Derived.Deep.DeepCutAuto
import Derived.Test.YtcpaaleogmiamaaGreatDoorMh5
namespace Go.Proofs.YtcpaaleogmiamaaGreatDoor
open Go.RowKit

/-- A plan that is read whatever is written in G. -/
def PlanOff (w : World) (G : Nat → Prop) (v : Value) (p : Pl) : Prop := ∀ (F : Nat → Prop) (W : World), (∀ k, F k → G k) → Upd F w W → PlanRd W v p

theorem PlanOff.rd {w : World} {G : Nat → Prop} {v : Value} {p : Pl} (h : PlanOff w G v p) : PlanRd w v p := h (fun _ => False) w (fun _ h => h.elim) (Upd.refl _ _)
theorem PlanOff.upd {w w' : World} {F G : Nat → Prop} {v : Value} {p : Pl} (h : PlanOff w G v p) (hu : Upd F w w') (hF : ∀ k, F k → G k) : PlanOff w' G v p :=
  fun H W hH hu2 => h (fun k => F k ∨ H k) W (fun k hk => hk.elim (hF k) (hH k)) ((hu.mono (fun _ _ h => .inl h)).trans (hu2.mono (fun _ _ h => .inr h)))
theorem PlanOff.below {w w' : World} {G : Nat → Prop} {v : Value} {p : Pl} (h : PlanOff w G v p) (hb : Below w.heap.size w w') : PlanOff w' G v p :=
  h.upd (F := fun _ => False) (Upd.of_below hb) (fun _ h => h.elim)
theorem PlanOff.grow {w : World} {G H : Nat → Prop} {v : Value} {p : Pl} (h : PlanOff w G v p) (hG : ∀ k, H k → G k ∨ w.heap.size ≤ k) : PlanOff w H v p :=
  fun F W hF hu => h (fun k => F k ∧ k < w.heap.size) W (fun k hk => (hG k (hF k hk.1)).elim id (fun e => by have := hk.2; omega))
    ⟨hu.os, hu.tape, hu.output, hu.size, fun k hk hn => hu.block k hk (fun hf => hn ⟨hf, hk⟩)⟩
theorem PlanOff.of_from {w : World} {N : Nat} {G : Nat → Prop} {v : Value} {p : Pl} (h : PlanFrom w N v p) (hG : ∀ k, G k → k < N) : PlanOff w G v p :=
  fun F W hF hu => h F W (fun k hk => hG k (hF k hk)) hu

/-- The blocks that a master writes. -/
def HmF (hb b mb q : Nat) (L : TpL) (k : Nat) : Prop := k = hb ∨ k = q ∨ TpF b mb L k

def missM (M : List (Int × Int)) : List (Int × Value) := M.map (fun x => (x.1, .int .i64 x.2))

/-- A master in memory. -/
structure HmAt (w : World) (hb b mb q : Nat) (L : TpL) (t : Tp) (v : Value) (p : Pl) (M : List (Int × Int)) (life : Int) (dead : Bool) : Prop where
  blk : ∃ pv lv, v = .agg #[.int .i64 p.nodes, .int .i64 p.copies, pv, lv] ∧ w.heap[hb]? = some (.cells #[.pointer (some ⟨b, 0, none⟩), .int .i64 p.nodes, .int .i64 p.copies, pv, lv, .map (some q), .int .i64 life, .bool dead] 122 (0, 0))
  tape : TpAt w b mb L t
  plan : PlanOff w (HmF hb b mb q L) v p
  miss : MapIs w q (missM M)
  ne : q ≠ mb

theorem HmAt.below {w w' : World} {hb b mb q : Nat} {L : TpL} {t : Tp} {v : Value} {p : Pl} {M : List (Int × Int)} {life : Int} {dead : Bool} (h : HmAt w hb b mb q L t v p M life dead) (hb' : Below w.heap.size w w') : HmAt w' hb b mb q L t v p M life dead := by
  obtain ⟨pv, lv, e, hblk⟩ := h.blk
  obtain ⟨es, cl, m1, m2, m3⟩ := h.miss
  refine ⟨⟨pv, lv, e, (hb'.block _ (Array.getElem?_eq_some_iff.1 hblk).1).trans hblk⟩, h.tape.below hb', h.plan.below hb', ⟨es, cl, (hb'.block _ (Array.getElem?_eq_some_iff.1 m1).1).trans m1, m2, m3⟩, h.ne⟩

theorem HmAt.apart {w : World} {hb b mb q : Nat} {L : TpL} {t : Tp} {v : Value} {p : Pl} {M : List (Int × Int)} {life : Int} {dead : Bool} (h : HmAt w hb b mb q L t v p M life dead) : ¬ TpF b mb L hb ∧ ¬ TpF b mb L q ∧ hb ≠ q ∧ hb < w.heap.size ∧ q < w.heap.size := by
  obtain ⟨pv, lv, e, hblk⟩ := h.blk
  obtain ⟨es, cl, m1, m2, m3⟩ := h.miss
  refine ⟨fun hk => ?_, fun hk => ?_, fun hk => ?_, (Array.getElem?_eq_some_iff.1 hblk).1, (Array.getElem?_eq_some_iff.1 m1).1⟩
  · rcases h.tape.kinds _ hk with ⟨cs, h1⟩ | ⟨es, cl, h1⟩ | ⟨cs, h1⟩ <;> rw [hblk] at h1 <;> simp at h1
  · rcases hk with e | e | hk
    · rw [e, h.tape.blk] at m1; simp at m1
    · exact h.ne e
    · obtain ⟨x, hx, e⟩ := List.mem_map.1 hk
      have := h.tape.fls x hx
      rw [e, m1] at this
      simp at this
  · rw [hk, m1] at hblk; simp at hblk

/-- The tape is another one. -/
theorem HmAt.step {w w' : World} {hb b mb q : Nat} {L L' : TpL} {t t' : Tp} {v : Value} {p : Pl} {M : List (Int × Int)} {life : Int} {dead : Bool} (h : HmAt w hb b mb q L t v p M life dead) (ht : TpAt w' b mb L' t') (hu : Upd (TpF b mb L) w w') (hn : ∀ k ∈ tpBlocks L', k ∈ tpBlocks L ∨ w.heap.size ≤ k) : HmAt w' hb b mb q L' t' v p M life dead := by
  obtain ⟨n1, n2, n3, n4, n5⟩ := h.apart
  obtain ⟨pv, lv, e, hblk⟩ := h.blk
  obtain ⟨es, cl, m1, m2, m3⟩ := h.miss
  refine ⟨⟨pv, lv, e, (hu.block _ n4 n1).trans hblk⟩, ht, ?_, ⟨es, cl, (hu.block _ n5 n2).trans m1, m2, m3⟩, h.ne⟩
  have h1 : PlanOff w (fun k => HmF hb b mb q L k ∨ w.heap.size ≤ k) v p := h.plan.grow (fun k hk => hk)
  have h2 := h1.upd hu (fun k hk => .inl (.inr (.inr hk)))
  refine h2.grow (fun k hk => .inl ?_)
  rcases hk with e | e | e | e | hk
  · exact .inl (.inl e)
  · exact .inl (.inr (.inl e))
  · exact .inl (.inr (.inr (.inl e)))
  · exact .inl (.inr (.inr (.inr (.inl e))))
  · exact (hn k hk).elim (fun hk => .inl (.inr (.inr (.inr (.inr hk))))) .inr

theorem HmAt.cells {w : World} {hb b mb q : Nat} {L : TpL} {t : Tp} {v : Value} {p : Pl} {M : List (Int × Int)} {life : Int} {dead : Bool} (h : HmAt w hb b mb q L t v p M life dead) :
    ∃ pv lv, v = .agg #[.int .i64 p.nodes, .int .i64 p.copies, pv, lv] ∧ w.cell? ⟨hb, 0, none⟩ = some (.pointer (some ⟨b, 0, none⟩)) ∧ w.cell? ⟨hb, 1, none⟩ = some (.int .i64 p.nodes) ∧ w.cell? ⟨hb, 2, none⟩ = some (.int .i64 p.copies) ∧ w.cell? ⟨hb, 3, none⟩ = some pv ∧ w.cell? ⟨hb, 4, none⟩ = some lv ∧
      w.cell? ⟨hb, 5, none⟩ = some (.map (some q)) ∧ w.cell? ⟨hb, 6, none⟩ = some (.int .i64 life) ∧ w.cell? ⟨hb, 7, none⟩ = some (.bool dead) ∧ ∀ j, w.frozen? ⟨hb, j, none⟩ = false := by
  obtain ⟨pv, lv, e, hblk⟩ := h.blk
  exact ⟨pv, lv, e, cells_of hblk 0 _ rfl, cells_of hblk 1 _ rfl, cells_of hblk 2 _ rfl, cells_of hblk 3 _ rfl, cells_of hblk 4 _ rfl, cells_of hblk 5 _ rfl, cells_of hblk 6 _ rfl, cells_of hblk 7 _ rfl, fun _ => frozen_of hblk⟩

def readyB (t : Tp) (life : Int) (dead : Bool) : Bool := dead || (t.down || decide (t.life ≠ life))

set_option maxRecDepth 100000 in
theorem Hready_any {w : World} {hb b mb q : Nat} {L : TpL} {t : Tp} {v : Value} {p : Pl} {M : List (Int × Int)} {life : Int} {dead : Bool} (h : HmAt w hb b mb q L t v p M life dead) :
    Calls Tryz.prog 67 #[.pointer (some ⟨hb, 0, none⟩)] w fun e w' => e = .returned (.int .i64 (if readyB t life dead = true then 10 else 0)) ∧ Below w.heap.size w w' := by
  obtain ⟨pv, lv, -, c0, c1, c2, c3, c4, c5, c6, c7, fz⟩ := h.cells
  have HD := Lib.hid (fun j => TDown_any (h.tape.below (below_drewN (Below.refl _ _) j)))
  have HL := Lib.hid (fun j => TLife_any (h.tape.below (below_drewN (Below.refl _ _) j)))
  clear h
  obtain ⟨tl, htl⟩ : ∃ tl, t.life = tl := ⟨_, rfl⟩
  obtain ⟨td, htd⟩ : ∃ td, t.down = td := ⟨_, rfl⟩
  rw [htl] at HL
  rw [htd] at HD
  have hr : (if readyB t life dead = true then (10 : Int) else 0) = if (dead || (td || decide (tl ≠ life))) = true then 10 else 0 := by rw [readyB, htl, htd]
  obtain ⟨r, hr0⟩ : ∃ r, (if readyB t life dead = true then (10 : Int) else 0) = r := ⟨_, rfl⟩
  rw [hr0] at hr ⊢
  have HR := Lib.hid hr
  clear hr hr0 htl htd
  cases dead with
  | true =>
    go_enter Tryz.func67, Tryz.ntmps67
    go_wp2
    go_quiet (fail)
    go_wp2
    go_ret
    exact ⟨by rw [HR.out]; simp, below_drewN (Below.refl _ _) _⟩
  | false =>
    cases td with
    | true =>
      go_enter Tryz.func67, Tryz.ntmps67
      go_wp2
      go_quiet ((go_at_call 62; with_reducible exact Calls.quiet_of_same (HD.out _)))
      go_wp2
      go_ret
      exact ⟨by rw [HR.out]; simp, below_drewN (Below.refl _ _) _⟩
    | false =>
      by_cases e : tl = life
      · subst e
        go_enter Tryz.func67, Tryz.ntmps67
        go_wp2
        go_quiet (first | (go_at_call 62; with_reducible exact Calls.quiet_of_same (HD.out _)) | (go_at_call 63; with_reducible exact Calls.quiet_of_same (HL.out _)))
        go_wp2
        go_ret
        exact ⟨by rw [HR.out]; simp, below_drewN (Below.refl _ _) _⟩
      · have e2 : (tl == life) = false := by simpa using e
        go_enter Tryz.func67, Tryz.ntmps67
        go_wp2
        go_quiet (first | (go_at_call 62; with_reducible exact Calls.quiet_of_same (HD.out _)) | (go_at_call 63; with_reducible exact Calls.quiet_of_same (HL.out _)))
        go_wp2
        go_ret
        exact ⟨by rw [HR.out]; simp [e], below_drewN (Below.refl _ _) _⟩

set_option maxRecDepth 100000 in
theorem HisNode_any {w : World} {hb b mb q : Nat} {L : TpL} {t : Tp} {v : Value} {p : Pl} {M : List (Int × Int)} {life : Int} {dead : Bool} (h : HmAt w hb b mb q L t v p M life dead) (n : Int) :
    Calls Tryz.prog 68 #[.pointer (some ⟨hb, 0, none⟩), .int .i64 n] w fun e w' => e = .returned (.bool (inB n 1 p.nodes)) ∧ w' = w := by
  obtain ⟨pv, lv, -, c0, c1, c2, c3, c4, c5, c6, c7, fz⟩ := h.cells
  clear h
  by_cases h1 : (1 : Int) ≤ n
  · have e : inB n 1 p.nodes = decide (n ≤ p.nodes) := by simp [inB, h1]
    rw [e]
    clear e
    go_enter Tryz.func68, Tryz.ntmps68
    go_wp2
    go_ret
    exact ⟨rfl, rfl⟩
  · have e : inB n 1 p.nodes = false := by simp [inB, h1]
    rw [e]
    clear e
    go_enter Tryz.func68, Tryz.ntmps68
    go_wp2
    go_ret
    exact ⟨rfl, rfl⟩
end Go.Proofs.YtcpaaleogmiamaaGreatDoor
namespace Go.Proofs.YtcpaaleogmiamaaGreatDoor
open Go.RowKit

set_option maxRecDepth 100000 in
set_option maxHeartbeats 8000000 in
theorem isEvent_any (x : Event) (w : World) : Calls Tryz.prog 79 #[x.v] w fun e w' => e = .returned (.bool (eventB x)) ∧ Below w.heap.size w w' := by
  obtain ⟨k, nd, pt, n⟩ := x
  unfold Event.v
  dsimp only
  have W1 := Lib.hid (fun w => within_any nd 1 5 w)
  have W2 := Lib.hid (fun w => within_any pt 0 3 w)
  have W3 := Lib.hid (fun w => within_any n 1 1073741824 w)
  have he0 : eventB ⟨k, nd, pt, n⟩ = if k = 1 then inB nd 1 5 && decide (pt = 0) && inB n 1 1073741824
    else if k = 2 then inB nd 1 5 && decide (pt = 0) && decide (n = 0)
    else if k = 3 then inB nd 1 5 && inB pt 0 3 && inB n 1 1073741824
    else if k = 4 then decide (nd = 0) && decide (pt = 0) && decide (n = 0)
    else if k = 5 then inB nd 1 5 && inB pt 0 3 && decide (n = 0)
    else false := rfl
  obtain ⟨eb, heb⟩ : ∃ eb, eventB ⟨k, nd, pt, n⟩ = eb := ⟨_, rfl⟩
  rw [heb] at he0 ⊢
  clear heb
  obtain ⟨b1, h1⟩ : ∃ b, inB nd 1 5 = b := ⟨_, rfl⟩
  obtain ⟨b2, h2⟩ : ∃ b, inB pt 0 3 = b := ⟨_, rfl⟩
  obtain ⟨b3, h3⟩ : ∃ b, inB n 1 1073741824 = b := ⟨_, rfl⟩
  rw [h1, h2, h3] at he0
  have HE := Lib.hid he0
  clear he0
  have H1 := Lib.hid h1
  have H2 := Lib.hid h2
  have H3 := Lib.hid h3
  clear h1 h2 h3
  by_cases k1 : k = 1
  · subst k1
    cases b1
    · go_enter Tryz.func79, Tryz.ntmps79
      go_wp2_with (first | (go_at_call 74; with_reducible refine (W1.out _).mono ?_; rintro e w1 ⟨rfl, rfl⟩; rw [H1.out]) | (go_at_call 74; with_reducible refine (W2.out _).mono ?_; rintro e w1 ⟨rfl, rfl⟩; rw [H2.out]) | (go_at_call 74; with_reducible refine (W3.out _).mono ?_; rintro e w1 ⟨rfl, rfl⟩; rw [H3.out]))
      exact bodyPost_ret (v := .bool false) (by simp [results, Tryz.results79, go_sem] <;> omega) rfl ⟨by rw [HE.out]; (first | (simp; done) | (simp <;> omega)), below_alloc _ _⟩
    · by_cases hp : pt = 0
      · subst hp
        go_enter Tryz.func79, Tryz.ntmps79
        go_wp2_with (first | (go_at_call 74; with_reducible refine (W1.out _).mono ?_; rintro e w1 ⟨rfl, rfl⟩; rw [H1.out]) | (go_at_call 74; with_reducible refine (W2.out _).mono ?_; rintro e w1 ⟨rfl, rfl⟩; rw [H2.out]) | (go_at_call 74; with_reducible refine (W3.out _).mono ?_; rintro e w1 ⟨rfl, rfl⟩; rw [H3.out]))
        exact bodyPost_ret (v := .bool b3) (by simp [results, Tryz.results79, go_sem] <;> omega) rfl ⟨by rw [HE.out]; (first | (simp; done) | (simp <;> omega)), below_alloc _ _⟩
      · go_enter Tryz.func79, Tryz.ntmps79
        go_wp2_with (first | (go_at_call 74; with_reducible refine (W1.out _).mono ?_; rintro e w1 ⟨rfl, rfl⟩; rw [H1.out]) | (go_at_call 74; with_reducible refine (W2.out _).mono ?_; rintro e w1 ⟨rfl, rfl⟩; rw [H2.out]) | (go_at_call 74; with_reducible refine (W3.out _).mono ?_; rintro e w1 ⟨rfl, rfl⟩; rw [H3.out]))
        exact bodyPost_ret (v := .bool false) (by simp [results, Tryz.results79, go_sem] <;> omega) rfl ⟨by rw [HE.out]; (first | (simp; done) | (simp <;> omega)), below_alloc _ _⟩
  by_cases k2 : k = 2
  · subst k2
    cases b1
    · go_enter Tryz.func79, Tryz.ntmps79
      go_wp2_with (first | (go_at_call 74; with_reducible refine (W1.out _).mono ?_; rintro e w1 ⟨rfl, rfl⟩; rw [H1.out]) | (go_at_call 74; with_reducible refine (W2.out _).mono ?_; rintro e w1 ⟨rfl, rfl⟩; rw [H2.out]) | (go_at_call 74; with_reducible refine (W3.out _).mono ?_; rintro e w1 ⟨rfl, rfl⟩; rw [H3.out]))
      exact bodyPost_ret (v := .bool false) (by simp [results, Tryz.results79, go_sem] <;> omega) rfl ⟨by rw [HE.out]; (first | (simp; done) | (simp <;> omega)), below_alloc _ _⟩
    · by_cases hp : pt = 0
      · subst hp
        by_cases hn : n = 0
        · subst hn
          go_enter Tryz.func79, Tryz.ntmps79
          go_wp2_with (first | (go_at_call 74; with_reducible refine (W1.out _).mono ?_; rintro e w1 ⟨rfl, rfl⟩; rw [H1.out]) | (go_at_call 74; with_reducible refine (W2.out _).mono ?_; rintro e w1 ⟨rfl, rfl⟩; rw [H2.out]) | (go_at_call 74; with_reducible refine (W3.out _).mono ?_; rintro e w1 ⟨rfl, rfl⟩; rw [H3.out]))
          exact bodyPost_ret (v := .bool true) (by simp [results, Tryz.results79, go_sem] <;> omega) rfl ⟨by rw [HE.out]; (first | (simp; done) | (simp <;> omega)), below_alloc _ _⟩
        · go_enter Tryz.func79, Tryz.ntmps79
          go_wp2_with (first | (go_at_call 74; with_reducible refine (W1.out _).mono ?_; rintro e w1 ⟨rfl, rfl⟩; rw [H1.out]) | (go_at_call 74; with_reducible refine (W2.out _).mono ?_; rintro e w1 ⟨rfl, rfl⟩; rw [H2.out]) | (go_at_call 74; with_reducible refine (W3.out _).mono ?_; rintro e w1 ⟨rfl, rfl⟩; rw [H3.out]))
          exact bodyPost_ret (v := .bool false) (by simp [results, Tryz.results79, go_sem] <;> omega) rfl ⟨by rw [HE.out]; (first | (simp; done) | (simp <;> omega)), below_alloc _ _⟩
      · go_enter Tryz.func79, Tryz.ntmps79
        go_wp2_with (first | (go_at_call 74; with_reducible refine (W1.out _).mono ?_; rintro e w1 ⟨rfl, rfl⟩; rw [H1.out]) | (go_at_call 74; with_reducible refine (W2.out _).mono ?_; rintro e w1 ⟨rfl, rfl⟩; rw [H2.out]) | (go_at_call 74; with_reducible refine (W3.out _).mono ?_; rintro e w1 ⟨rfl, rfl⟩; rw [H3.out]))
        exact bodyPost_ret (v := .bool false) (by simp [results, Tryz.results79, go_sem] <;> omega) rfl ⟨by rw [HE.out]; (first | (simp; done) | (simp <;> omega)), below_alloc _ _⟩
  by_cases k3 : k = 3
  · subst k3
    cases b1
    · go_enter Tryz.func79, Tryz.ntmps79
      go_wp2_with (first | (go_at_call 74; with_reducible refine (W1.out _).mono ?_; rintro e w1 ⟨rfl, rfl⟩; rw [H1.out]) | (go_at_call 74; with_reducible refine (W2.out _).mono ?_; rintro e w1 ⟨rfl, rfl⟩; rw [H2.out]) | (go_at_call 74; with_reducible refine (W3.out _).mono ?_; rintro e w1 ⟨rfl, rfl⟩; rw [H3.out]))
      exact bodyPost_ret (v := .bool false) (by simp [results, Tryz.results79, go_sem] <;> omega) rfl ⟨by rw [HE.out]; (first | (simp; done) | (simp <;> omega)), below_alloc _ _⟩
    · cases b2
      · go_enter Tryz.func79, Tryz.ntmps79
        go_wp2_with (first | (go_at_call 74; with_reducible refine (W1.out _).mono ?_; rintro e w1 ⟨rfl, rfl⟩; rw [H1.out]) | (go_at_call 74; with_reducible refine (W2.out _).mono ?_; rintro e w1 ⟨rfl, rfl⟩; rw [H2.out]) | (go_at_call 74; with_reducible refine (W3.out _).mono ?_; rintro e w1 ⟨rfl, rfl⟩; rw [H3.out]))
        exact bodyPost_ret (v := .bool false) (by simp [results, Tryz.results79, go_sem] <;> omega) rfl ⟨by rw [HE.out]; (first | (simp; done) | (simp <;> omega)), below_alloc _ _⟩
      · go_enter Tryz.func79, Tryz.ntmps79
        go_wp2_with (first | (go_at_call 74; with_reducible refine (W1.out _).mono ?_; rintro e w1 ⟨rfl, rfl⟩; rw [H1.out]) | (go_at_call 74; with_reducible refine (W2.out _).mono ?_; rintro e w1 ⟨rfl, rfl⟩; rw [H2.out]) | (go_at_call 74; with_reducible refine (W3.out _).mono ?_; rintro e w1 ⟨rfl, rfl⟩; rw [H3.out]))
        exact bodyPost_ret (v := .bool b3) (by simp [results, Tryz.results79, go_sem] <;> omega) rfl ⟨by rw [HE.out]; (first | (simp; done) | (simp <;> omega)), below_alloc _ _⟩
  by_cases k4 : k = 4
  · subst k4
    by_cases hA : nd = 0
    · subst hA
      by_cases hB : pt = 0
      · subst hB
        by_cases hC : n = 0
        · subst hC
          go_enter Tryz.func79, Tryz.ntmps79
          go_wp2_with (first | (go_at_call 74; with_reducible refine (W1.out _).mono ?_; rintro e w1 ⟨rfl, rfl⟩; rw [H1.out]) | (go_at_call 74; with_reducible refine (W2.out _).mono ?_; rintro e w1 ⟨rfl, rfl⟩; rw [H2.out]) | (go_at_call 74; with_reducible refine (W3.out _).mono ?_; rintro e w1 ⟨rfl, rfl⟩; rw [H3.out]))
          exact bodyPost_ret (v := .bool true) (by simp [results, Tryz.results79, go_sem]) rfl ⟨by rw [HE.out]; simp, below_alloc _ _⟩
        · go_enter Tryz.func79, Tryz.ntmps79
          go_wp2_with (first | (go_at_call 74; with_reducible refine (W1.out _).mono ?_; rintro e w1 ⟨rfl, rfl⟩; rw [H1.out]) | (go_at_call 74; with_reducible refine (W2.out _).mono ?_; rintro e w1 ⟨rfl, rfl⟩; rw [H2.out]) | (go_at_call 74; with_reducible refine (W3.out _).mono ?_; rintro e w1 ⟨rfl, rfl⟩; rw [H3.out]))
          exact bodyPost_ret (v := .bool false) (by simp [results, Tryz.results79, go_sem]) rfl ⟨by rw [HE.out]; simp [hC], below_alloc _ _⟩
      · go_enter Tryz.func79, Tryz.ntmps79
        go_wp2_with (first | (go_at_call 74; with_reducible refine (W1.out _).mono ?_; rintro e w1 ⟨rfl, rfl⟩; rw [H1.out]) | (go_at_call 74; with_reducible refine (W2.out _).mono ?_; rintro e w1 ⟨rfl, rfl⟩; rw [H2.out]) | (go_at_call 74; with_reducible refine (W3.out _).mono ?_; rintro e w1 ⟨rfl, rfl⟩; rw [H3.out]))
        exact bodyPost_ret (v := .bool false) (by simp [results, Tryz.results79, go_sem]) rfl ⟨by rw [HE.out]; simp [hB], below_alloc _ _⟩
    · go_enter Tryz.func79, Tryz.ntmps79
      go_wp2_with (first | (go_at_call 74; with_reducible refine (W1.out _).mono ?_; rintro e w1 ⟨rfl, rfl⟩; rw [H1.out]) | (go_at_call 74; with_reducible refine (W2.out _).mono ?_; rintro e w1 ⟨rfl, rfl⟩; rw [H2.out]) | (go_at_call 74; with_reducible refine (W3.out _).mono ?_; rintro e w1 ⟨rfl, rfl⟩; rw [H3.out]))
      exact bodyPost_ret (v := .bool false) (by simp [results, Tryz.results79, go_sem]) rfl ⟨by rw [HE.out]; simp [hA], below_alloc _ _⟩
  by_cases k5 : k = 5
  · subst k5
    cases b1
    · go_enter Tryz.func79, Tryz.ntmps79
      go_wp2_with (first | (go_at_call 74; with_reducible refine (W1.out _).mono ?_; rintro e w1 ⟨rfl, rfl⟩; rw [H1.out]) | (go_at_call 74; with_reducible refine (W2.out _).mono ?_; rintro e w1 ⟨rfl, rfl⟩; rw [H2.out]) | (go_at_call 74; with_reducible refine (W3.out _).mono ?_; rintro e w1 ⟨rfl, rfl⟩; rw [H3.out]))
      exact bodyPost_ret (v := .bool false) (by simp [results, Tryz.results79, go_sem] <;> omega) rfl ⟨by rw [HE.out]; (first | (simp; done) | (simp <;> omega)), below_alloc _ _⟩
    · cases b2
      · go_enter Tryz.func79, Tryz.ntmps79
        go_wp2_with (first | (go_at_call 74; with_reducible refine (W1.out _).mono ?_; rintro e w1 ⟨rfl, rfl⟩; rw [H1.out]) | (go_at_call 74; with_reducible refine (W2.out _).mono ?_; rintro e w1 ⟨rfl, rfl⟩; rw [H2.out]) | (go_at_call 74; with_reducible refine (W3.out _).mono ?_; rintro e w1 ⟨rfl, rfl⟩; rw [H3.out]))
        exact bodyPost_ret (v := .bool false) (by simp [results, Tryz.results79, go_sem] <;> omega) rfl ⟨by rw [HE.out]; (first | (simp; done) | (simp <;> omega)), below_alloc _ _⟩
      · by_cases hn : n = 0
        · subst hn
          go_enter Tryz.func79, Tryz.ntmps79
          go_wp2_with (first | (go_at_call 74; with_reducible refine (W1.out _).mono ?_; rintro e w1 ⟨rfl, rfl⟩; rw [H1.out]) | (go_at_call 74; with_reducible refine (W2.out _).mono ?_; rintro e w1 ⟨rfl, rfl⟩; rw [H2.out]) | (go_at_call 74; with_reducible refine (W3.out _).mono ?_; rintro e w1 ⟨rfl, rfl⟩; rw [H3.out]))
          exact bodyPost_ret (v := .bool true) (by simp [results, Tryz.results79, go_sem] <;> omega) rfl ⟨by rw [HE.out]; (first | (simp; done) | (simp <;> omega)), below_alloc _ _⟩
        · go_enter Tryz.func79, Tryz.ntmps79
          go_wp2_with (first | (go_at_call 74; with_reducible refine (W1.out _).mono ?_; rintro e w1 ⟨rfl, rfl⟩; rw [H1.out]) | (go_at_call 74; with_reducible refine (W2.out _).mono ?_; rintro e w1 ⟨rfl, rfl⟩; rw [H2.out]) | (go_at_call 74; with_reducible refine (W3.out _).mono ?_; rintro e w1 ⟨rfl, rfl⟩; rw [H3.out]))
          exact bodyPost_ret (v := .bool false) (by simp [results, Tryz.results79, go_sem] <;> omega) rfl ⟨by rw [HE.out]; (first | (simp; done) | (simp <;> omega)), below_alloc _ _⟩
  go_enter Tryz.func79, Tryz.ntmps79
  go_wp2_with (first | (go_at_call 74; with_reducible refine (W1.out _).mono ?_; rintro e w1 ⟨rfl, rfl⟩; rw [H1.out]) | (go_at_call 74; with_reducible refine (W2.out _).mono ?_; rintro e w1 ⟨rfl, rfl⟩; rw [H2.out]) | (go_at_call 74; with_reducible refine (W3.out _).mono ?_; rintro e w1 ⟨rfl, rfl⟩; rw [H3.out]))
  exact bodyPost_ret (v := .bool false) (by simp [results, Tryz.results79, go_sem] <;> omega) rfl ⟨by rw [HE.out]; simp [k1, k2, k3, k4, k5], below_alloc _ _⟩
end Go.Proofs.YtcpaaleogmiamaaGreatDoor
