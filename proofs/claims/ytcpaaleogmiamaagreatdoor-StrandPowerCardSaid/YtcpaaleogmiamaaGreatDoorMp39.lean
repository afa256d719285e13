/- The references' Same and Batches: whether two rows of batches are one. -/
/- The walk of heliographlaw07.all. -/
import Derived.Test.YtcpaaleogmiamaaGreatDoorMp34
import Derived.Test.YtcpaaleogmiamaaGreatDoorMp33
namespace Go.Proofs.YtcpaaleogmiamaaGreatDoor
open Go.RowKit

set_option maxRecDepth 100000 in
set_option maxHeartbeats 4000000 in
theorem Same3_same {w : World} {x : Batch} {va ua : Option Addr} {vc uc : Nat} (hv : RcsRd w (.slice va x.recs.length vc) x.recs) (hu : RcsRd w (.slice ua x.recs.length uc) x.recs) : Calls Tryz.prog 98 #[x.v (.slice va x.recs.length vc), x.v (.slice ua x.recs.length uc)] w fun e w' => e = .returned (.bool true) ∧ Below w.heap.size w w' := by
  obtain ⟨x0, x1, x2, x3, x4, l⟩ := x
  simp only [Batch.v] at hv hu ⊢
  have hml : l.length ≤ maxLen := by obtain ⟨_, _, _, _, h, _⟩ := hv.cells; exact h
  have hl : (l.length : Int) ≤ 9223372036854775807 := by unfold maxLen at hml; omega
  have hvk : ∀ W, Below w.heap.size w W → ∀ k (hk : k < l.length), ∃ b off, va = some ⟨b, off, none⟩ ∧ W.cell? ⟨b, off + k * 4, none⟩ = some (.int .i64 l[k].off) ∧ W.cell? ⟨b, off + k * 4 + 1, none⟩ = some (.string l[k].key) ∧
      W.cell? ⟨b, off + k * 4 + 2, none⟩ = some (.string l[k].val) ∧ W.cell? ⟨b, off + k * 4 + 3, none⟩ = some (.bool l[k].gone) := by
    intro W hW k hk
    obtain ⟨a, c, e, -, -, hc⟩ := (hv.below hW).cells
    simp only [Value.slice.injEq, true_and] at e
    obtain ⟨b, off, e2, -, h⟩ := hc k hk
    exact ⟨b, off, e.1.trans e2, h⟩
  have huk : ∀ W, Below w.heap.size w W → ∀ k (hk : k < l.length), ∃ b off, ua = some ⟨b, off, none⟩ ∧ W.cell? ⟨b, off + k * 4, none⟩ = some (.int .i64 l[k].off) ∧ W.cell? ⟨b, off + k * 4 + 1, none⟩ = some (.string l[k].key) ∧
      W.cell? ⟨b, off + k * 4 + 2, none⟩ = some (.string l[k].val) ∧ W.cell? ⟨b, off + k * 4 + 3, none⟩ = some (.bool l[k].gone) := by
    intro W hW k hk
    obtain ⟨a, c, e, -, -, hc⟩ := (hu.below hW).cells
    simp only [Value.slice.injEq, true_and] at e
    obtain ⟨b, off, e2, -, h⟩ := hc k hk
    exact ⟨b, off, e.1.trans e2, h⟩
  have HVK := Lib.hid hvk
  have HUK := Lib.hid huk
  clear hv hu hvk huk hml
  go_enter Tryz.func98, Tryz.ntmps98
  go_upto_region 1 with fail
  obtain ⟨n, hn⟩ : ∃ n, w.heap.size = n := ⟨_, rfl⟩
  obtain ⟨w2, hw2⟩ : ∃ w2, w2 = (w.alloc (.cells #[.int .i64 x0, .int .i64 x1, .int .i64 x2, .int .i64 x3, .int .i64 x4, .slice va l.length vc] 40)).alloc (.cells #[.int .i64 x0, .int .i64 x1, .int .i64 x2, .int .i64 x3, .int .i64 x4, .slice ua l.length uc] 40) := ⟨_, rfl⟩
  have hb2 : Below w.heap.size w w2 := by rw [hw2]; exact (below_alloc w _).trans ((below_alloc _ _).mono (by rw [World.size_alloc]; omega))
  have hcA : w2.heap[n]? = some (.cells #[.int .i64 x0, .int .i64 x1, .int .i64 x2, .int .i64 x3, .int .i64 x4, .slice va l.length vc] 40 (0, 0)) := by
    rw [hw2, heap_alloc_old _ _ (by rw [World.size_alloc]; omega), ← hn]; exact heap_alloc_new _ _
  have hcB : w2.heap[n + 1]? = some (.cells #[.int .i64 x0, .int .i64 x1, .int .i64 x2, .int .i64 x3, .int .i64 x4, .slice ua l.length uc] 40 (0, 0)) := by
    rw [hw2, ← hn, ← World.size_alloc]; exact heap_alloc_new _ _
  have hcc : ∀ W, Below w2.heap.size w2 W → W.cell? ⟨n, 0, none⟩ = some (.int .i64 x0) ∧ W.cell? ⟨n, 1, none⟩ = some (.int .i64 x1) ∧ W.cell? ⟨n, 2, none⟩ = some (.int .i64 x2) ∧ W.cell? ⟨n, 3, none⟩ = some (.int .i64 x3) ∧ W.cell? ⟨n, 4, none⟩ = some (.int .i64 x4) ∧ W.cell? ⟨n, 5, none⟩ = some (.slice va l.length vc) ∧
      W.cell? ⟨n + 1, 0, none⟩ = some (.int .i64 x0) ∧ W.cell? ⟨n + 1, 1, none⟩ = some (.int .i64 x1) ∧ W.cell? ⟨n + 1, 2, none⟩ = some (.int .i64 x2) ∧ W.cell? ⟨n + 1, 3, none⟩ = some (.int .i64 x3) ∧ W.cell? ⟨n + 1, 4, none⟩ = some (.int .i64 x4) ∧ W.cell? ⟨n + 1, 5, none⟩ = some (.slice ua l.length uc) := fun W hW => by
    have h1 := heap_below hW hcA
    have h2 := heap_below hW hcB
    exact ⟨cells_of h1 0 _ rfl, cells_of h1 1 _ rfl, cells_of h1 2 _ rfl, cells_of h1 3 _ rfl, cells_of h1 4 _ rfl, cells_of h1 5 _ rfl, cells_of h2 0 _ rfl, cells_of h2 1 _ rfl, cells_of h2 2 _ rfl, cells_of h2 3 _ rfl, cells_of h2 4 _ rfl, cells_of h2 5 _ rfl⟩
  rw [← hw2]
  simp only [World.size_alloc, hn]
  have HCC := Lib.hid hcc
  have HB2 := Lib.hid hb2
  obtain ⟨k0, k1, k2, k3, k4, k5, m0, m1, m2, m3, m4, m5⟩ := HCC.out w2 (Below.refl _ _)
  clear hcA hcB hcc hb2 hw2
  go_wp2_with fail
  go_loopg [5] l.length (fun gk v5 wr => ∃ k : Nat, k ≤ l.length ∧ gk = l.length - k ∧ v5 = .int .i64 k ∧ Below w2.heap.size w2 wr)
  case atStart => exact ⟨0, Nat.zero_le _, rfl, rfl, Below.refl _ _⟩
  case round =>
    obtain ⟨k, hk, rfl, rfl, hb⟩ := hrel
    clear k0 k1 k2 k3 k4 k5 m0 m1 m2 m3 m4 m5
    obtain ⟨k0, k1, k2, k3, k4, k5, m0, m1, m2, m3, m4, m5⟩ := HCC.out _ hb
    by_cases hkt : k < l.length
    · obtain ⟨b1, o1, rfl, x0, x1, x2, x3⟩ := HVK.out _ (below_trans HB2.out hb) k hkt
      obtain ⟨b2, o2, rfl, y0, y1, y2, y3⟩ := HUK.out _ (below_trans HB2.out hb) k hkt
      have j1 : (k : Int) < (l.length : Int) := by omega
      have j2 : (0 : Int) ≤ (k : Int) := by omega
      have HB := Lib.hid hb
      clear hb
      go_upto_region 6 with fail
      go_quiet (fail)
      go_wp2_with fail
      go_roundg (l.length - (k + 1))
      case measure => omega
      case rel => exact ⟨k + 1, by omega, rfl, by go_num, below_drewN HB.out _⟩
    · obtain rfl : k = l.length := by omega
      have HB := Lib.hid (below_trans HB2.out hb)
      clear hb
      go_wp2_with fail
      go_ret
      exact ⟨rfl, HB.out⟩
theorem BsRd.look {w W : World} {va : Option Addr} {vc n : Nat} {l : List Batch} (hv : BsRd w (.slice va n vc) l) (hW : Below w.heap.size w W) (k : Nat) (hk : k < l.length) : ∃ b off ra rc, va = some ⟨b, off, none⟩ ∧ W.cell? ⟨b, off + k * 6, none⟩ = some (.int .i64 l[k].base) ∧ W.cell? ⟨b, off + k * 6 + 1, none⟩ = some (.int .i64 l[k].count) ∧
      W.cell? ⟨b, off + k * 6 + 2, none⟩ = some (.int .i64 l[k].prod) ∧ W.cell? ⟨b, off + k * 6 + 3, none⟩ = some (.int .i64 l[k].seq) ∧ W.cell? ⟨b, off + k * 6 + 4, none⟩ = some (.int .i64 l[k].time) ∧ W.cell? ⟨b, off + k * 6 + 5, none⟩ = some (.slice ra l[k].recs.length rc) ∧ RcsRd W (.slice ra l[k].recs.length rc) l[k].recs := by
  obtain ⟨a, c, e, -, -, hc⟩ := (hv.below hW).cells
  simp only [Value.slice.injEq] at e
  obtain ⟨b, off, ra, rc, e2, -, h⟩ := hc k hk
  exact ⟨b, off, ra, rc, e.1.trans e2, h⟩

set_option maxRecDepth 100000 in
set_option maxHeartbeats 4000000 in
theorem Batches7_same {w : World} {v u : Value} {l : List Batch} (hv : BsRd w v l) (hu : BsRd w u l) : Calls Tryz.prog 41 #[v, u] w fun e w' => e = .returned (.bool true) ∧ Below w.heap.size w w' := by
  obtain ⟨va, vc, rfl, -, hml, -⟩ := hv.cells
  obtain ⟨ua, uc, rfl, -, -, -⟩ := hu.cells
  have hl : (l.length : Int) ≤ 9223372036854775807 := by unfold maxLen at hml; omega
  have HV := Lib.hid (And.intro hv hu)
  clear hv hu hml
  go_enter Tryz.func41, Tryz.ntmps41
  go_wp2_with fail
  go_loopg [5] l.length (fun gk v5 wr => ∃ k : Nat, k ≤ l.length ∧ gk = l.length - k ∧ v5 = .int .i64 k ∧ Below w.heap.size w wr)
  case atStart => exact ⟨0, Nat.zero_le _, rfl, rfl, Below.refl _ _⟩
  case round =>
    obtain ⟨k, hk, rfl, rfl, hb⟩ := hrel
    by_cases hkt : k < l.length
    · obtain ⟨b1, o1, ra1, rc1, rfl, x0, x1, x2, x3, x4, x5, x6⟩ := HV.out.1.look hb k hkt
      obtain ⟨b2, o2, ra2, rc2, rfl, y0, y1, y2, y3, y4, y5, y6⟩ := HV.out.2.look hb k hkt
      obtain ⟨x, hx⟩ : ∃ x, l[k] = x := ⟨_, rfl⟩
      rw [hx] at x0 x1 x2 x3 x4 x5 x6 y0 y1 y2 y3 y4 y5 y6
      have j1 : (k : Int) < (l.length : Int) := by omega
      have j2 : (0 : Int) ≤ (k : Int) := by omega
      have hsm := Same3_same (x6.below ((Below.refl wr.heap.size wr).drew)) (y6.below ((Below.refl wr.heap.size wr).drew))
      simp only [Batch.v] at hsm
      have HSM := Lib.hid hsm
      have HB := Lib.hid hb
      clear hb hsm x6 y6 hx
      go_upto_region 6 with fail
      go_region_with (first
          | (go_at_call 98; with_reducible refine HSM.out.mono ?_; rintro _ w5 ⟨rfl, hb5⟩))
      all_goals
        have HB5 := Lib.hid (below_trans (HB.out.drew) hb5)
        clear hb5
        go_wp2_with fail
        go_roundg (l.length - (k + 1))
        case measure => omega
        case rel => exact ⟨k + 1, by omega, rfl, by go_num, HB5.out⟩
    · obtain rfl : k = l.length := by omega
      go_wp2_with fail
      go_ret
      exact ⟨rfl, hb⟩
end Go.Proofs.YtcpaaleogmiamaaGreatDoor
namespace Go.Proofs.YtcpaaleogmiamaaGreatDoor
open Go.RowKit
section
attribute [local go_sem] Oper.semAt_some

/-- What all answers: batches in new memory. -/
def AllTo (w : World) (l : List Batch) (e : Ending) (w' : World) : Prop := ∃ a c, e = .returned (.slice a l.length c) ∧ BsIn w' (fun k => w.heap.size ≤ k) (.slice a l.length c) l ∧ Below w.heap.size w w'

theorem batF_all {s : List Sg} (hg : ∀ b ∈ allB s, goodB b = true) : batF s (-1) = allB s :=
  List.filter_eq_self.2 (fun b hb => by
    have G := (goodB_iff b).1 (hg b hb)
    have := G.base
    have := G.count
    simp only [decide_eq_true_eq]
    omega)

/-- Between two rounds of all. -/
structure AlI (n : Nat) (W0 : World) (C : Nat) (pre : List (Value × Batch)) (A : World) : Prop where
  out : ∃ ov, A.heap[n + 1]? = some (.cells #[ov] 89 (0, 0)) ∧ A.ownsRow n 40 6 ov pre.length (bCells pre) ∧ ∀ g, ov.ownBlock = some g → g = n ∨ C ≤ g
  recs : ∀ y ∈ pre, PreB n y A
  c : W0.heap.size ≤ C
  upd : Upd (fun k => k = n ∨ k = n + 1) W0 A
theorem AlI.below {n : Nat} {W0 : World} {C : Nat} {pre : List (Value × Batch)} {A B : World} (h : AlI n W0 C pre A) (hb : Below A.heap.size A B) : AlI n W0 C pre B := by
  obtain ⟨ov, h1, h2, h3⟩ := h.out
  exact ⟨⟨ov, heap_below hb h1, owns_upd h2 (Upd.of_below (F := fun _ => False) hb) (fun _ _ h => h), h3⟩, fun y hy => (h.recs y hy).below hb, h.c, h.upd.trans (Upd.of_below hb)⟩
theorem AlI.put {n : Nat} {W0 : World} {C : Nat} {pre : List (Value × Batch)} {A : World} (h : AlI n W0 C pre A) {l : Nat} {o o' : Obj} (hw : W0.heap.size ≤ l) (hl : A.heap[l]? = some o) (ho : o.isCells = false) : AlI n W0 C pre (A.putObj l o') := by
  obtain ⟨ov, h1, h2, h3⟩ := h.out
  exact ⟨⟨ov, heap_put h1 hl rfl ho, owns_put h2 hl ho, h3⟩, fun y hy => (h.recs y hy).put hl ho, h.c, upd_put_out h.upd _ hw⟩
theorem PreB.kinds {B : Nat} {x : Value × Batch} {A A' : World} (h : PreB B x A) {F : Nat → Prop} (hu : Upd F A A') (hF : ∀ k, F k → ∃ cs t, A.heap[k]? = some (.cells cs t (0, 0)) ∧ t ≠ 84) : PreB B x A' :=
  owns_upd h hu (fun g hg hf => by
    obtain ⟨cur, hc⟩ := owns_kind3 h g hg
    obtain ⟨cs, t, hk, ht⟩ := hF g hf
    rw [hc] at hk
    simp at hk
    exact ht hk.2.symm)

set_option maxRecDepth 100000 in
set_option maxHeartbeats 4000000 in
theorem L7all_any {w : World} {S : Nat → Prop} {sb tb : Nat} {x : St} {gv : Value} {m : List (Value × Sg)} {D : Nat → Prop} (h : StIn w S sb tb x gv m D) (hok : StOk x) (hsl : x.segs.length ≤ 1000000) (hll : ∀ g ∈ x.segs, g.list.length ≤ 1000000) (hal : (allB x.segs).length ≤ 1000000) (hgd : ∀ b ∈ allB x.segs, goodB b = true) :
    Calls Tryz.prog 39 #[.pointer (some ⟨sb, 0, none⟩)] w (AllTo w (allB x.segs)) := by
  rw [← batF_all hgd]
  have hbl : (batF x.segs (-1)).length ≤ 1000000 := by rw [batF_all hgd]; exact hal
  obtain ⟨R, hR⟩ : ∃ R, batF x.segs (-1) = R := ⟨_, rfl⟩
  rw [hR] at hbl ⊢
  refine (callsIn_wide (n := 9)).1 ?_
  refine callsIn_of_wp_marks Tryz.func39 rfl trivial ?_ rfl
  simp only [Tryz.ntmps39, List.size_toArray, List.length_cons, List.length_nil, Nat.reduceAdd, Nat.reduceSub, Array.replicate_succ, Array.replicate_zero, List.push_toArray, List.append_toArray, List.nil_append, List.cons_append]
  gi_wp2_with fail
  obtain ⟨n, hn⟩ : ∃ n, w.heap.size = n := ⟨_, rfl⟩
  refine ⟨trivial, (callsIn_wide.2 (StBatches_any _ (-1) _)).mono ?_⟩
  rintro _ wq ⟨rfl, hwq⟩
  have hsz : wq.heap.size = n + 4 := by rw [hwq, ← hn]; simp
  have hbq : Below w.heap.size w wq := by
    rw [hwq]
    exact ((((Below.refl _ w).alloc (Nat.le_refl _) _).alloc (by simp) _).alloc (by simp; omega) _).alloc (by simp; omega) _
  have g0 : wq.heap[n]? = some (.cells #[] 40 (0, 0)) := by rw [hwq]; exact al_old _ (al_old _ (al_old _ (al_at _ hn)))
  have g1 : wq.heap[n + 1]? = some (.cells #[.slice (some ⟨n, 0, none⟩) 0 0] 89 (0, 0)) := by rw [hwq, hn]; exact al_old _ (al_old _ (al_at _ (by simp only [World.size_alloc]; omega)))
  have g2 : wq.heap[n + 2]? = some (.cells #[.pointer (some ⟨sb, 0, none⟩)] 74 (0, 0)) := by rw [hwq]; exact al_old _ (al_at _ (by simp only [World.size_alloc]; omega))
  have g3 : wq.heap[n + 3]? = some (.cells #[.int .i64 (-1)] 3 (0, 0)) := by rw [hwq]; exact al_at _ (by simp only [World.size_alloc]; omega)
  have hrow0 : wq.ownsRow n 40 6 (.slice (some ⟨n, 0, none⟩) 0 0) 0 [] := by
    have h1 := World.ownsRow_made (e := 40) (size := 6) (base := n) w #[] 0 (by omega) (Nat.zero_le _) rfl
    rw [hn] at h1
    rw [hwq]
    exact ((h1.alloc _).alloc _).alloc _
  simp only [World.size_alloc, hn]
  rw [show n + 1 + 1 = n + 2 from rfl, show n + 2 + 1 = n + 3 from rfl]
  have hit := StIter_seq (h.below hbq) hok hsl hll (xb := n + 2) (ob := n + 3) (off := -1) (cells_of g2 0 _ rfl) (cells_of g3 0 _ rfl) ⟨by omega, by omega⟩ (G := fun k => k = n ∨ k = n + 1) (fun k hk => ⟨by omega, fun hs => by have := h.lt k hs; omega, by omega, by omega⟩)
  rw [hR] at hit
  have HWQ := Lib.hid (And.intro hbq (And.intro hsz hn))
  have HBL := Lib.hid hbl
  clear hwq hbq hn hbl hll hsl h hok g2 g3 g0 hR hal hgd
  have hnf : ∀ w, (binOp .eql 166 (.func (.func 149) #[] #[.pointer (some ⟨n + 2, 0, none⟩), .pointer (some ⟨n + 3, 0, none⟩)]) .nilFunc).run Tryz.prog w = .ok (.bool false) w := fun _ => by rfl
  gi_wp2_with fail
  have hG0 : ∀ A, Below wq.heap.size wq A → AlI n wq A.heap.size [] A := fun A hb =>
    ⟨⟨_, heap_below hb g1, owns_upd hrow0 (Upd.of_below (F := fun _ => False) hb) (fun _ _ h => h), fun g hg => .inl (by simpa [Value.ownBlock] using hg.symm)⟩, by simp, hb.size, Upd.of_below hb⟩
  refine wp_rangeP (n := 9) (gf := 149) (lb := #[.pointer (some ⟨n + 2, 0, none⟩), .pointer (some ⟨n + 3, 0, none⟩)]) rfl (enters_of Tryz.func149 (by kernel_rfl) rfl) hit (fun _ => rfl) (AlI n wq) (fun _ _ _ _ => False)
    (fun C s A B hi hb => hi.below hb) (fun c C s A B hi hb => hi.elim) (fun C s A l o o' hi hl hk ho => hi.put hl hk ho) (fun c C s A l o o' hi hl hk ho => hi.elim) (fun N y A l o o' hp _ hk ho => hp.put hk ho) hG0
    (fun C y a' A => ∃ bx, C ≤ bx ∧ A.heap[bx]? = some (.cells #[.int .i64 y.2.base, .int .i64 y.2.count, .int .i64 y.2.prod, .int .i64 y.2.seq, .int .i64 y.2.time, y.1] 40 (0, 0)) ∧
      ∃ u, a' = { tmps := #[.pointer (some ⟨sb, 0, none⟩), undef, .slice none 0 0, .pointer (some ⟨n + 1, 0, none⟩), .func (.func 149) #[] #[.pointer (some ⟨n + 2, 0, none⟩), .pointer (some ⟨n + 3, 0, none⟩)], .pointer (some ⟨bx, 0, none⟩), .slice (some ⟨n, 0, none⟩) 0 0, .pointer (some ⟨sb, 0, none⟩), .func (.func 149) #[] #[.pointer (some ⟨n + 2, 0, none⟩), .pointer (some ⟨n + 3, 0, none⟩)], .func (.func 149) #[] #[.pointer (some ⟨n + 2, 0, none⟩), .pointer (some ⟨n + 3, 0, none⟩)], .bool false, u, .func (.func 149) #[] #[.pointer (some ⟨n + 2, 0, none⟩), .pointer (some ⟨n + 3, 0, none⟩)], y.2.v y.1, undef, undef, undef, undef, undef], defers := [] })
    (fun C y a' A l o o' hx _ hk ho => by obtain ⟨bx, h1, h2, h3⟩ := hx; exact ⟨bx, h1, heap_put h2 hk rfl ho, h3⟩) (fun N y A B hp hb => hp.below hb) ?assign ?body ?done ?stop
  case assign =>
    rintro l C pre ⟨rv, bt⟩ A0 A hC hCA hi hb hp
    replace hp : A.ownsRow A0.heap.size 84 4 rv bt.recs.length (recCells bt.recs) := hp
    obtain ⟨ra, rc, rfl, -⟩ := (Sl.of_owns hp).shape
    simp only [Batch.v]
    gi_wp2
    refine ⟨below_alloc _ _, A.heap.size, Nat.le_trans hCA hb.size, heap_alloc_new _ _, _, rfl⟩
  case body =>
    rintro l C pre ⟨rv, bt⟩ a' A0 A hC hCA hi hlw hlo hua hp ⟨bx, hbx, hxc, u0, rfl⟩ ⟨rest, hrest, -⟩
    obtain ⟨ov0, ho0, hw0, hob0⟩ := hi.out
    obtain ⟨lo, hlo, hloc⟩ := hlo
    have hnl : ∀ {k : Nat} {o : Obj}, A0.heap[k]? = some o → o.isCells = true → k ≠ l := fun hk ho e => by
      subst e
      rw [hk] at hlo
      cases hlo
      rw [ho] at hloc
      cases hloc
    have a3 : A.heap[n + 1]? = some (.cells #[ov0] 89 (0, 0)) := (hua.block _ (Array.getElem?_eq_some_iff.1 ho0).1 (hnl ho0 rfl)).trans ho0
    have hkl : ∀ {N e size nn : Nat} {v : Value} {xs : List Value}, A0.ownsRow N e size v nn xs → A.ownsRow N e size v nn xs := fun h => owns_upd h hua (fun g hg e => by
      obtain ⟨cur, hc⟩ := owns_kind3 h g hg
      exact hnl hc rfl e)
    have hw1 := hkl hw0
    have hrecs : ∀ y ∈ pre, PreB n y A := fun y hy => hkl (hi.recs y hy)
    have hud : Upd (fun k => k = n ∨ k = n + 1) wq A := by
      have h1 := (hi.upd.mono (fun _ _ h => Or.inl h)).trans (hua.mono (fun k _ e => .inr e) : Upd (fun k => (k = n ∨ k = n + 1) ∨ k = l) A0 A)
      exact h1.mono (fun k hk h => h.elim id (fun e => by omega))
    replace hp : A.ownsRow A0.heap.size 84 4 rv bt.recs.length (recCells bt.recs) := hp
    obtain ⟨ra, rc, rfl, -⟩ := (Sl.of_owns hp).shape
    simp only at hxc ⊢
    have hz := HWQ.out.2.1
    have hpl : pre.length + 1 ≤ 1000000 := by
      have h1 := HBL.out
      rw [← hrest] at h1
      simp at h1
      omega
    obtain ⟨oa, oc, rfl, -⟩ := (Sl.of_owns hw1).shape
    have hpu : ∀ (g cap : Nat) (W5 : World) (ob : Obj), W5.ownsRow n 40 6 (.slice (some ⟨g, 0, none⟩) (pre.length + 1) cap) (pre.length + 1) (bCells pre ++ [.int .i64 bt.base, .int .i64 bt.count, .int .i64 bt.prod, .int .i64 bt.seq, .int .i64 bt.time, .slice ra bt.recs.length rc]) → (A.alloc ob).grownBy W5 (Value.slice oa pre.length oc).ownBlock →
        ((Value.slice oa pre.length oc).ownBlock = some g ∨ g = (A.alloc ob).heap.size) →
        W5.cell? ⟨n + 1, 0, none⟩ = some (.slice oa pre.length oc) ∧ W5.frozen? ⟨n + 1, 0, none⟩ = false ∧ RoundUpd (fun k => k = n ∨ k = n + 1) C A (W5.setCell ⟨n + 1, 0, none⟩ (.slice (some ⟨g, 0, none⟩) (pre.length + 1) cap)) ∧ AlI n wq C (pre ++ [(.slice ra bt.recs.length rc, bt)]) (W5.setCell ⟨n + 1, 0, none⟩ (.slice (some ⟨g, 0, none⟩) (pre.length + 1) cap)) := by
      intro g cap W5 ob h1 h2 h3
      have hu : Upd (fun c => some c = (Value.slice oa pre.length oc).ownBlock) A W5 := (upd_alloc _ A ob).trans (upd_grown h2)
      have hne : ¬ some (n + 1) = (Value.slice oa pre.length oc).ownBlock := fun e => by
        obtain ⟨cur, hc⟩ := owns_kind3 hw1 (n + 1) e.symm
        rw [a3] at hc
        simp at hc
      have h5 := (hu.block (n + 1) (Array.getElem?_eq_some_iff.1 a3).1 hne).trans a3
      have hset := upd_set1 W5 (n + 1) 0 (.slice (some ⟨g, 0, none⟩) (pre.length + 1) cap)
      have huT : Upd (fun k => k = n + 1 ∨ some k = (Value.slice oa pre.length oc).ownBlock) A (W5.setCell ⟨n + 1, 0, none⟩ (.slice (some ⟨g, 0, none⟩) (pre.length + 1) cap)) := (hu.mono (fun _ _ h => Or.inr h)).trans (hset.mono (fun k _ e => .inl e))
      have hkk : ∀ k, (k = n + 1 ∨ some k = (Value.slice oa pre.length oc).ownBlock) → ∃ cs t, A.heap[k]? = some (.cells cs t (0, 0)) ∧ t ≠ 84 := by
        rintro k (rfl | hk)
        · exact ⟨_, _, a3, by decide⟩
        · obtain ⟨cur, hc⟩ := owns_kind3 hw1 k hk.symm
          exact ⟨_, _, hc, by decide⟩
      refine ⟨cells_of h5 0 _ rfl, frozen_of h5, ⟨_, huT, fun k hk => ⟨?_, ?_⟩⟩, ⟨⟨_, setCell_same (o := 0) (v := .slice (some ⟨g, 0, none⟩) (pre.length + 1) cap) h5, ?_, ?_⟩, ?_, hC, ?_⟩⟩
      · rcases hk with rfl | hk
        · exact .inl (.inr rfl)
        · exact (hob0 k hk.symm).imp .inl id
      · obtain ⟨cs, t, hc, -⟩ := hkk k hk
        exact ⟨_, _, _, hc⟩
      · have e : bCells (pre ++ [(.slice ra bt.recs.length rc, bt)]) = bCells pre ++ [.int .i64 bt.base, .int .i64 bt.count, .int .i64 bt.prod, .int .i64 bt.seq, .int .i64 bt.time, .slice ra bt.recs.length rc] := by simp [bCells]
        rw [e, List.length_append]
        exact owns_upd h1 hset (fun q hq e => by
          obtain ⟨cur, hc⟩ := owns_kind3 h1 q hq
          rw [e, h5] at hc
          simp at hc)
      · intro q hq
        simp only [Value.ownBlock, Option.some.injEq] at hq
        rcases h3 with h3 | h3
        · exact hob0 q (by rw [h3, hq])
        · right
          have := hua.size
          simp only [World.size_alloc] at h3
          omega
      · intro y hy
        rcases List.mem_append.1 hy with hy | hy
        · exact (hrecs y hy).kinds huT hkk
        · simp only [List.mem_singleton] at hy
          subst hy
          have hp2 : PreB n (.slice ra bt.recs.length rc, bt) A := owns_mono hp (by omega)
          exact hp2.kinds huT hkk
      · have h6 := (hud.mono (fun _ _ h => Or.inl h)).trans (huT.mono (fun k _ hk => by
            rcases hk with rfl | hk
            · exact .inl (.inr rfl)
            · exact (hob0 k hk.symm).elim (fun e => .inl (.inl e)) .inr) : Upd (fun k => (k = n ∨ k = n + 1) ∨ C ≤ k) A _)
        exact h6.mono (fun k hk h => h.elim id (fun e => by omega))
    have hrow : ∀ o, (A.alloc o).ownsRow n 40 6 (.slice oa pre.length oc) pre.length (bCells pre) := fun o => hw1.alloc o
    have hbse : ∀ o, n ≤ (A.alloc o).heap.size := fun o => by have := hua.size; simp only [World.size_alloc]; omega
    have c3 : A.cell? ⟨n + 1, 0, none⟩ = some (.slice oa pre.length oc) := cells_of a3 0 _ rfl
    have q0 : A.cell? ⟨bx, 0, none⟩ = some (.int .i64 bt.base) := cells_of hxc 0 _ rfl
    have q1 : A.cell? ⟨bx, 1, none⟩ = some (.int .i64 bt.count) := cells_of hxc 1 _ rfl
    have q2 : A.cell? ⟨bx, 2, none⟩ = some (.int .i64 bt.prod) := cells_of hxc 2 _ rfl
    have q3 : A.cell? ⟨bx, 3, none⟩ = some (.int .i64 bt.seq) := cells_of hxc 3 _ rfl
    have q4 : A.cell? ⟨bx, 4, none⟩ = some (.int .i64 bt.time) := cells_of hxc 4 _ rfl
    have q5 : A.cell? ⟨bx, 5, none⟩ = some (.slice ra bt.recs.length rc) := cells_of hxc 5 _ rfl
    have HPU := Lib.hid hpu
    have HROW := Lib.hid hrow
    have HBSE := Lib.hid hbse
    clear hpu hrow hbse hxc hud hrecs hw1 hkl hnl a3 hp hlo hloc hw0 ho0 hua hi hob0 hrest hit hrow0 g1
    obtain ⟨i0, hi, hz0, hz1, hz2⟩ := info_parts info_Batch6
    gi_wp2_with (gi_at_builtin; refine wpListIn_append_at _ rfl _ _ 89 rfl n 40 i0 _ 6 64 und_Batches6 hi hz0 hz1 hz2 rfl (by decide) (.slice oa pre.length oc) pre.length (bCells pre) rfl (HROW.out _) _ 1 1 [.int .i64 bt.base, .int .i64 bt.count, .int .i64 bt.prod, .int .i64 bt.seq, .int .i64 bt.time, .slice ra bt.recs.length rc] rfl rfl (World.news_of_block (cs := #[.int .i64 bt.base, .int .i64 bt.count, .int .i64 bt.prod, .int .i64 bt.seq, .int .i64 bt.time, .slice ra bt.recs.length rc]) (t := 40) (fr := (0, 0)) (heap_alloc_new A _)) (by simp [Value.oneCell']) (by decide) (by unfold maxLen; omega) (by omega) (HBSE.out _) ?_; intro g5 cap5 w5 hown5 hgrow5 hat5; obtain ⟨c5, z5, hfin⟩ := HPU.out _ _ _ _ hown5 hgrow5 hat5; have HFIN := Lib.hid hfin; clear hfin hown5 hgrow5 hat5)
    exact HFIN.out
  case done =>
    rintro Dd C xs A hD hS hi hK
    obtain ⟨ov, ho, hw, hob⟩ := hi.out
    have hlen : xs.length = R.length := by rw [← hS, List.length_map]
    obtain ⟨oa, oc, rfl, -⟩ := (Sl.of_owns hw).shape
    have c3 : A.cell? ⟨n + 1, 0, none⟩ = some (.slice oa xs.length oc) := cells_of ho 0 _ rfl
    have hz := HWQ.out.2.1
    have hfin : AllTo w R (.returned (.slice oa R.length oc)) (A.putObj Dd (.deferred none)) := by
      refine ⟨oa, oc, rfl, ⟨xs, hS, ?_, fun y hy => ?_⟩, ?_⟩
      · have h1 := owns_inS (owns_put hw hK rfl (o' := .deferred none)) (S := fun k => w.heap.size ≤ k) (fun g hg => by have := (owns_lt hw g hg).1; have := HWQ.out.2.2; omega)
        rw [hlen] at h1 ⊢
        exact h1
      · have h2 : (A.putObj Dd (.deferred none)).ownsRow n 84 4 y.1 y.2.recs.length (recCells y.2.recs) := owns_put (hi.recs y hy) hK rfl
        exact owns_inS h2 (fun g hg => by have := (owns_lt h2 g hg).1; have := HWQ.out.2.2; omega)
      · have hb := HWQ.out.1
        exact (hb.trans (hi.upd.toBelow hb.size (fun k hk => by have := HWQ.out.2.2; omega))).trans ((upd_putObj A Dd (.deferred none)).toBelow (Nat.le_trans hb.size hi.upd.size) (fun k hk => by have := hb.size; omega))
    have HFIN := Lib.hid hfin
    have HKD := Lib.hid hK
    clear hfin hw hi ho hz hK hob
    gi_wp2_with fail
    refine ⟨by simp, .inl ⟨_, _, rfl, run_takeDeferred HKD.out, ?_⟩⟩
    exact ⟨.slice oa R.length oc, by simp [results, Tryz.f39, go_sem], HFIN.out⟩
  case stop =>
    intro Dd c C pre A hD h1 h
    exact h.elim
end
end Go.Proofs.YtcpaaleogmiamaaGreatDoor
