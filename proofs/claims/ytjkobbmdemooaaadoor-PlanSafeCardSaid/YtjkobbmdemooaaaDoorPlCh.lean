/- The walk of plan.change: a life, who is left out. -/
import Derived.Test.YtjkobbmdemooaaaDoorPlB
import Derived.Test.YtjkobbmdemooaaaDoorPlDd
namespace Go.Proofs.YtjkobbmdemooaaaDoor
open Go.RowKit

/-- The places told of, read whatever is written into blocks of another type. -/
def TurnRd (w : World) (tv : Value) (l : List Int) : Prop := ∀ (F : Nat → Prop) (W : World), (∀ k, F k → ∃ cur T, w.heap[k]? = some (.cells cur T (0, 0)) ∧ T ≠ 3) → Upd F w W → IntsRd W tv l

theorem TurnRd.of_owns {w : World} {B : Nat} {tv : Value} {l : List Int} (h : w.ownsRow B 3 1 tv l.length (intCells l)) : TurnRd w tv l := by
  intro F W hF hu
  refine IntsRd.of_owns (owns_upd h hu (fun g hg hf => ?_))
  obtain ⟨c, T, hc, hT⟩ := hF g hf
  obtain ⟨c', hc'⟩ := owns_block h g hg
  exact block_ne hc hc' hT rfl

theorem ints_made {w : World} {b : Nat} {v : Int} (h : w.heap[b]? = some (.cells #[.int .i64 v] 3 (0, 0))) : w.ownsRow b 3 1 (.slice (some ⟨b, 0, none⟩) 1 1) [v].length (intCells [v]) :=
  ⟨by simp [intCells], .inr ⟨b, 1, _, rfl, Nat.le_refl _, h, Nat.le_refl _, by unfold maxLen; omega, rfl, rfl⟩⟩

def ChangedTo (w : World) (N pb : Nat) (r : Pl × List Int × Int) (e : Ending) (w' : World) : Prop :=
  (r.2.2 = 0 ∧ ∃ (pa la : Option Addr) (pc lc : Nat) (m : List (Value × Pt)) (tv : Value), e = .returned (.tuple #[tv, .int .i64 0]) ∧ PlanOwn w' N pb r.1 pa pc la lc m ∧ TurnRd w' tv r.2.1 ∧ Below N w w') ∨
  (r.2.2 ≠ 0 ∧ e = .returned (.tuple #[.slice none 0 0, .int .i64 r.2.2]) ∧ Below N w w')

set_option maxRecDepth 100000 in
set_option maxHeartbeats 4000000 in
theorem change_boot {w : World} {N pb : Nat} {p : Pl} {pa : Option Addr} {pc : Nat} {la : Option Addr} {lc : Nat} {m : List (Value × Pt)} (h : PlanOwn w N pb p pa pc la lc m) (hg : goodP p = true) (nd pt cn : Int) :
    Calls Tryd.prog 23 #[.pointer (some ⟨pb, 0, none⟩), (Event.v ⟨1, nd, pt, cn⟩)] w (ChangedTo w N pb (changeP p ⟨1, nd, pt, cn⟩)) := by
  obtain ⟨hs, -, -⟩ := small_of_good hg
  have hr := (goodP_iff.1 hg).2.2.2.2.2
  simp only [Event.v] at *
  have hb1 := below_alloc w (.cells #[.int .i64 1, .int .i64 nd, .int .i64 pt, .int .i64 cn] 35)
  have h1 := h.below hb1
  have hlow := h.low
  have hlt := h.lt
  obtain ⟨wa, hwa⟩ : ∃ wa, wa = w.alloc (.cells #[.int .i64 1, .int .i64 nd, .int .i64 pt, .int .i64 cn] 35) := ⟨_, rfl⟩
  have hsz : wa.heap.size = w.heap.size + 1 := by rw [hwa]; simp
  have hx : wa.heap[w.heap.size]? = some (.cells #[.int .i64 1, .int .i64 nd, .int .i64 pt, .int .i64 cn] 35 (0, 0)) := by rw [hwa]; exact heap_alloc_new _ _
  rw [← hwa] at h1 hb1
  have x0 := cells_of hx 0 _ rfl
  have x1 := cells_of hx 1 _ rfl
  have x2 := cells_of hx 2 _ rfl
  have x3 := cells_of hx 3 _ rfl
  by_cases ho : cn ≤ lifeP p.lives nd
  · have hc := boot_old h1 hr hs.lives ⟨1, nd, pt, cn⟩ ho
    simp only [Event.v] at hc
    have hcp : changeP p ⟨1, nd, pt, cn⟩ = (p, [], 21) := by simp [changeP, ho]
    have HC := Lib.hid hc
    have HCP := Lib.hid hcp
    clear hc hcp h1 h hx
    go_enter Tryd.func23, Tryd.ntmps23
    go_wp2
    rw [← hwa]
    clear hwa
    refine wp_scope_goto 0 rfl ?_
    go_wp2_with (first | (go_at_call 39; refine HC.out.mono ?_; rintro _ w5 ⟨rfl, hb5⟩))
    exact bodyPost_ret (v := .tuple #[.slice none 0 0, .int .i64 21]) (by simp [results, Tryd.results23, go_sem]) rfl (Or.inr ⟨by rw [HCP.out]; simp, by rw [HCP.out], (hb1.mono (by omega)).trans (hb5.mono (by omega))⟩)
  · have hc := boot_new h1 hr hs ⟨1, nd, pt, cn⟩ ho
    simp only [Event.v, Booted] at hc
    have hcp : changeP p ⟨1, nd, pt, cn⟩ = (⟨p.nodes, p.copies, p.parts, bootL p.lives (nd, cn)⟩, placesB (holdsB nd) p.parts, 0) := by simp [changeP, ho]
    have HC := Lib.hid hc
    have HCP := Lib.hid hcp
    clear hc hcp h1 h hx
    go_enter Tryd.func23, Tryd.ntmps23
    go_wp2
    rw [← hwa]
    clear hwa
    refine wp_scope_goto 0 rfl ?_
    go_wp2_with (first | (go_at_call 39; refine HC.out.mono ?_; rintro _ w5 ⟨pa', la', pc', lc', m', tv, rfl, hown5, htv5, hb5⟩))
    exact bodyPost_ret (v := .tuple #[tv, .int .i64 0]) (by simp [results, Tryd.results23, go_sem]) rfl (Or.inl ⟨by rw [HCP.out], pa', la', pc', lc', m', tv, rfl, by rw [HCP.out]; exact hown5, by rw [HCP.out]; exact TurnRd.of_owns htv5, (hb1.mono (by omega)).trans hb5⟩)

set_option maxRecDepth 100000 in
set_option maxHeartbeats 4000000 in
theorem change_dead {w : World} {N pb : Nat} {p : Pl} {pa : Option Addr} {pc : Nat} {la : Option Addr} {lc : Nat} {m : List (Value × Pt)} (h : PlanOwn w N pb p pa pc la lc m) (hg : goodP p = true) (nd pt cn : Int) :
    Calls Tryd.prog 23 #[.pointer (some ⟨pb, 0, none⟩), (Event.v ⟨2, nd, pt, cn⟩)] w (ChangedTo w N pb (changeP p ⟨2, nd, pt, cn⟩)) := by
  obtain ⟨hs, -, -⟩ := small_of_good hg
  simp only [Event.v] at *
  have hb1 := below_alloc w (.cells #[.int .i64 2, .int .i64 nd, .int .i64 pt, .int .i64 cn] 35)
  have h1 := h.below hb1
  have hlow := h.low
  have hlt := h.lt
  obtain ⟨wa, hwa⟩ : ∃ wa, wa = w.alloc (.cells #[.int .i64 2, .int .i64 nd, .int .i64 pt, .int .i64 cn] 35) := ⟨_, rfl⟩
  have hsz : wa.heap.size = w.heap.size + 1 := by rw [hwa]; simp
  have hx : wa.heap[w.heap.size]? = some (.cells #[.int .i64 2, .int .i64 nd, .int .i64 pt, .int .i64 cn] 35 (0, 0)) := by rw [hwa]; exact heap_alloc_new _ _
  rw [← hwa] at h1 hb1
  have x0 := cells_of hx 0 _ rfl
  have x1 := cells_of hx 1 _ rfl
  have x2 := cells_of hx 2 _ rfl
  have x3 := cells_of hx 3 _ rfl
  have hc := dead_any h1 hs nd
  unfold Dead at hc
  have HC := Lib.hid hc
  clear hc h1 h hx
  obtain ⟨T, hT⟩ : ∃ T, placesB (deadB nd) p.parts = T := ⟨_, rfl⟩
  have hcp : changeP p ⟨2, nd, pt, cn⟩ = if T = [] then (p, [], 21) else (⟨p.nodes, p.copies, p.parts.map (deadX nd), p.lives⟩, T, 0) := by rw [← hT]; simp [changeP]
  rw [hT] at HC
  by_cases ht : T = []
  · subst ht
    rw [if_pos rfl] at hcp
    have HCP := Lib.hid hcp
    clear hcp hT
    go_enter Tryd.func23, Tryd.ntmps23
    go_wp2
    rw [← hwa]
    clear hwa
    refine wp_scope_goto 0 rfl ?_
    go_wp2_with (first | (go_at_call 40; refine HC.out.mono ?_; rintro _ w5 ⟨pa', la', pc', lc', m', tv, rfl, hown5, htv5, hb5⟩; obtain ⟨ta, tc, rfl, -⟩ := (Sl.of_owns htv5).shape; simp only [List.length_nil] at htv5 ⊢))
    apply wp_goto
    repeat (first | simp only [Exit.inBlock, Exit.then, jump_goto] | go_big_open)
    go_wp2
    rw [Exit.noGoto_ret]
    exact bodyPost_ret (v := .tuple #[.slice none 0 0, .int .i64 21]) (by simp [results, Tryd.results23, go_sem]) rfl (Or.inr ⟨by rw [HCP.out]; simp, by rw [HCP.out], (hb1.mono (by omega)).trans hb5⟩)
  · rw [if_neg ht] at hcp
    have hpos : ¬ ((T.length : Int) = 0) := by
      have := List.length_pos_iff.2 ht
      omega
    have HCP := Lib.hid hcp
    clear hcp hT
    go_enter Tryd.func23, Tryd.ntmps23
    go_wp2
    rw [← hwa]
    clear hwa
    refine wp_scope_goto 0 rfl ?_
    go_wp2_with (first | (go_at_call 40; refine HC.out.mono ?_; rintro _ w5 ⟨pa', la', pc', lc', m', tv, rfl, hown5, htv5, hb5⟩; obtain ⟨ta, tc, rfl, -⟩ := (Sl.of_owns htv5).shape))
    exact bodyPost_ret (v := .tuple #[.slice ta T.length tc, .int .i64 0]) (by simp [results, Tryd.results23, go_sem]) rfl (Or.inl ⟨by rw [HCP.out], pa', la', pc', lc', m', _, rfl, by rw [HCP.out]; exact hown5, by rw [HCP.out]; exact TurnRd.of_owns htv5, (hb1.mono (by omega)).trans hb5⟩)
end Go.Proofs.YtjkobbmdemooaaaDoor
