/- Rows of acts; the walk of heliographlaw13.great. -/
/- The walks of the reference's Ints, Places, Same. -/
/- The walks of the reference's Places and Same. -/
import Derived.Test.YtcpaaleogmiamaaGreatDoorMh41
import Derived.Test.YtcpaaleogmiamaaGreatDoorMh5
import Derived.Test.YtcpaaleogmiamaaGreatDoorMh12
namespace Go.Proofs.YtcpaaleogmiamaaGreatDoor
open Go.RowKit

/-- What is asked of an act of the statement: its kind, its event, its fates. -/
structure HAct where
  kind : Int
  ev : Event
  fates : List Int
/-- The cells of an act. -/
def ActIs (w : World) (x : HAct) (cs : List Value) : Prop := cs.length = 46 ∧ (∀ u ∈ cs, u.oneCell' = true) ∧ ∃ (gs ms : ByteArray) (fv : Value), cs[0]? = some (.int .i64 x.kind) ∧ cs[28]? = some (.string gs) ∧
  cs[39]? = some (.int .i64 x.ev.kind) ∧ cs[40]? = some (.int .i64 x.ev.node) ∧ cs[41]? = some (.int .i64 x.ev.part) ∧ cs[42]? = some (.int .i64 x.ev.n) ∧ cs[44]? = some fv ∧ cs[45]? = some (.string ms) ∧ IntsRd w fv x.fates
def ActsRd (w : World) (v : Value) (A : List HAct) : Prop := ∃ Ls : List (List Value), Rd w 46 v A.length Ls.flatten ∧ All2 (ActIs w) A Ls

theorem All2.imp {α β : Type} {R S : α → β → Prop} {l : List α} {m : List β} (h : All2 R l m) (hi : ∀ a b, R a b → S a b) : All2 S l m := by
  induction h with
  | nil => exact .nil
  | cons h1 _ ih => exact .cons (hi _ _ h1) ih
theorem ActsRd.below {w w' : World} {v : Value} {A : List HAct} (h : ActsRd w v A) (hb : Below w.heap.size w w') : ActsRd w' v A := by
  obtain ⟨Ls, h1, h2⟩ := h
  refine ⟨Ls, h1.below hb, h2.imp ?_⟩
  rintro a b ⟨g1, g2, gs, ms, fv, k0, k1, k2, k3, k4, k5, k6, k7, k8⟩
  exact ⟨g1, g2, gs, ms, fv, k0, k1, k2, k3, k4, k5, k6, k7, k8.below hb⟩
theorem acts_at {w : World} : ∀ {A : List HAct} {Ls : List (List Value)}, All2 (ActIs w) A Ls → ∀ (i : Nat) (hi : i < A.length), ∃ cs, ActIs w A[i] cs ∧ ∀ j u, cs[j]? = some u → Ls.flatten[i * 46 + j]? = some u := by
  intro A Ls h
  induction h with
  | nil => intro i hi; simp at hi
  | @cons a cs A Ls hr h ih =>
    intro i hi
    have hl := hr.1
    cases i with
    | zero =>
      refine ⟨cs, hr, fun j u hu => ?_⟩
      have hj : j < cs.length := (List.getElem?_eq_some_iff.1 hu).1
      rw [Nat.zero_mul, Nat.zero_add, List.flatten_cons, List.getElem?_append_left hj]
      exact hu
    | succ i =>
      obtain ⟨c', h1, h2⟩ := ih i (by simpa using hi)
      refine ⟨c', h1, fun j u hu => ?_⟩
      rw [List.flatten_cons, List.getElem?_append_right (by omega), show (i + 1) * 46 + j - cs.length = i * 46 + j by omega]
      exact h2 j u hu
theorem ActsRd.shape {w : World} {v : Value} {A : List HAct} (h : ActsRd w v A) : ∃ a c, v = .slice a A.length c ∧ A.length ≤ maxLen := by
  obtain ⟨Ls, h1, -⟩ := h
  obtain ⟨a, c, e, -⟩ := h1.shape
  exact ⟨a, c, e, h1.maxlen⟩
theorem ActsRd.at {w : World} {a : Option Addr} {n c : Nat} {A : List HAct} (h : ActsRd w (.slice a n c) A) (i : Nat) (hi : i < A.length) :
    ∃ b off cs, a = some ⟨b, off, none⟩ ∧ ActIs w A[i] cs ∧ ∀ j u, cs[j]? = some u → w.cell? ⟨b, off + i * 46 + j, none⟩ = some u := by
  obtain ⟨Ls, h1, h2⟩ := h
  obtain ⟨b, off, cap, e, -, -, -, hc⟩ := Rd.at h1 (by omega)
  simp only [Value.slice.injEq] at e
  obtain ⟨cs, h3, h4⟩ := acts_at h2 i hi
  exact ⟨b, off, cs, e.1, h3, fun j u hu => by rw [Nat.add_assoc]; exact hc _ u (h4 j u hu)⟩

def GreatTo (w : World) (e : Ending) (w' : World) : Prop := (∃ g, e = .returned (.bool g)) ∧ w' = w

set_option maxRecDepth 100000 in
set_option maxHeartbeats 4000000 in
theorem L13great_any {w : World} {v : Value} {A : List HAct} (h : ActsRd w v A) : Calls Tryz.prog 21 #[v] w (GreatTo w) := by
  obtain ⟨a, c, rfl, hml⟩ := h.shape
  have hml2 : (A.length : Int) ≤ 9223372036854775807 := by unfold maxLen at hml; omega
  have H := Lib.hid h
  clear h hml
  go_enter Tryz.func21, Tryz.ntmps21
  go_wp2
  go_loopg [3] A.length (fun gk v3 wt => ∃ k : Nat, k ≤ A.length ∧ gk = A.length - k ∧ v3 = .int .i64 k ∧ wt = w)
  case atStart => exact ⟨0, Nat.zero_le _, rfl, rfl, rfl⟩
  case round =>
    obtain ⟨k, hk, rfl, rfl, rfl⟩ := hrel
    by_cases hkt : k < A.length
    · have j1 : (k : Int) < (A.length : Int) := by omega
      have j2 : (0 : Int) ≤ (k : Int) := by omega
      by_cases h60 : k < 60
      · have j3 : (k : Int) < 60 := by omega
        obtain ⟨b, off, cs, rfl, hai, hcc⟩ := H.out.at k hkt
        obtain ⟨g1, g2, gs, ms, fv, k0, k1, k2, k3, k4, k5, k6, k7, k8⟩ := hai
        obtain ⟨fa, fc, rfl, -⟩ := k8.cells
        have x28 := hcc 28 _ k1
        have x44 := hcc 44 _ k6
        have x45 := hcc 45 _ k7
        clear hcc k0 k1 k2 k3 k4 k5 k6 k7 k8
        by_cases c1 : (100 : Int) < (A[k].fates.length : Int)
        · go_wp2
          go_ret
          exact ⟨⟨true, rfl⟩, rfl⟩
        · by_cases c2 : (1000 : Int) < (ms.size : Int)
          · go_wp2
            go_ret
            exact ⟨⟨true, rfl⟩, rfl⟩
          · by_cases c3 : (1000 : Int) < (gs.size : Int)
            · go_wp2
              go_ret
              exact ⟨⟨true, rfl⟩, rfl⟩
            · go_wp2
              go_roundg (A.length - (k + 1))
              case measure => omega
              case rel => exact ⟨k + 1, by omega, rfl, by go_num, rfl⟩
      · have j3 : ¬ (k : Int) < 60 := by omega
        go_wp2
        go_ret
        exact ⟨⟨false, rfl⟩, rfl⟩
    · have j1 : ¬ (k : Int) < (A.length : Int) := by omega
      go_wp2
      go_ret
      exact ⟨⟨false, rfl⟩, rfl⟩
end Go.Proofs.YtcpaaleogmiamaaGreatDoor
namespace Go.Proofs.YtcpaaleogmiamaaGreatDoor
open Go.RowKit

set_option maxRecDepth 100000 in
set_option maxHeartbeats 2000000 in
theorem RInts_any {w : World} {v v' : Value} {l l' : List Int} (h : IntsRd w v l) (h' : IntsRd w v' l') : Calls Tryz.prog 141 #[v, v'] w fun e w' => e = .returned (.bool (decide (l = l'))) ∧ Below w.heap.size w w' := by
  obtain ⟨a, c, rfl, -, hm, hC⟩ := h.cells
  obtain ⟨a', c', rfl, -, hm', hC'⟩ := h'.cells
  have hm1 : (l.length : Int) ≤ 9223372036854775807 := by have : maxLen = 9223372036854775807 := rfl; omega
  have hm2 : (l'.length : Int) ≤ 9223372036854775807 := by have : maxLen = 9223372036854775807 := rfl; omega
  have HC := Lib.hid hC
  have HC' := Lib.hid hC'
  clear h h' hC hC' hm hm'
  by_cases hl : l.length = l'.length
  case neg =>
    have hne : ¬ (l.length : Int) = (l'.length : Int) := by omega
    have hd : decide (l = l') = false := by rw [decide_eq_false_iff_not]; intro e; exact hl (by rw [e])
    rw [hd]
    clear hd hl
    go_enter Tryz.func141, Tryz.ntmps141
    go_wp2
    go_ret
    exact ⟨rfl, Below.refl _ _⟩
  case pos =>
    have HL := Lib.hid hl
    obtain ⟨R, hR⟩ : ∃ R, decide (l = l') = R := ⟨_, rfl⟩
    rw [hR]
    have HR := Lib.hid hR
    rw [← hl]
    clear hR hm2 hl
    go_enter Tryz.func141, Tryz.ntmps141
    go_wp2
    go_loopg [5] l.length (fun gk i wr => ∃ k : Nat, k ≤ l.length ∧ gk = l.length - k ∧ i = .int .i64 k ∧ l.take k = l'.take k ∧ Below w.heap.size w wr)
    case atStart => exact ⟨0, Nat.zero_le _, rfl, rfl, rfl, Below.refl _ _⟩
    case round =>
      obtain ⟨k, hk, rfl, rfl, heq, hbel⟩ := hrel
      have HQ := Lib.hid heq
      clear heq
      by_cases hlt : k < l.length
      · obtain ⟨b, off, rfl, hb, c0⟩ := HC.out k hlt
        obtain ⟨b', off', rfl, hb', c0'⟩ := HC'.out k (by have := HL.out; omega)
        have c1 := below_some hbel c0 hb
        have c1' := below_some hbel c0' hb'
        have i1 : (k : Int) < (l.length : Int) := by omega
        have i2 : (0 : Int) ≤ (k : Int) := by omega
        have hlt' : k < l'.length := by have := HL.out; omega
        have htk : l[k] = l'[k] → l.take (k + 1) = l'.take (k + 1) := by
          intro e
          rw [List.take_succ_eq_append_getElem hlt, List.take_succ_eq_append_getElem hlt', HQ.out, e]
        have hne : ¬ l[k] = l'[k] → R = false := by
          intro e
          rw [← HR.out, decide_eq_false_iff_not]
          intro e2
          subst e2
          exact e rfl
        have HTK := Lib.hid htk
        have HNE := Lib.hid hne
        clear htk hne c0 c0'
        generalize l[k] = x at *
        generalize l'[k] = y at *
        by_cases hxy : x = y
        · subst hxy
          go_wp2
          go_quiet (fail)
          go_wp2
          go_roundg (l.length - (k + 1))
          case measure => omega
          case rel => exact ⟨k + 1, by omega, rfl, by go_num, HTK.out (by first | rfl | trivial), below_drewN hbel _⟩
        · have hRf := HNE.out hxy
          subst hRf
          go_wp2
          go_quiet (fail)
          go_wp2
          go_ret
          exact ⟨rfl, below_drewN hbel _⟩
      · have i1 : ¬ (k : Int) < (l.length : Int) := by omega
        have hRt : R = true := by
          rw [← HR.out, decide_eq_true_iff]
          have := HQ.out
          rw [List.take_of_length_le (by omega), List.take_of_length_le (by have := HL.out; omega)] at this
          exact this
        subst hRt
        go_wp2
        go_ret
        exact ⟨rfl, hbel⟩
end Go.Proofs.YtcpaaleogmiamaaGreatDoor
namespace Go.Proofs.YtcpaaleogmiamaaGreatDoor
open Go.RowKit

set_option maxRecDepth 100000 in
set_option maxHeartbeats 2000000 in
theorem RPlaces_any {w : World} {x y : Pt} {ca cb : Option Addr} {cc cd : Nat} (h : IntsRd w (.slice ca x.chain.length cc) x.chain) (h' : IntsRd w (.slice cb y.chain.length cd) y.chain) :
    Calls Tryz.prog 83 #[partV x ca cc, partV y cb cd] w fun e w' => e = .returned (.bool (decide (x = y))) ∧ Below w.heap.size w w' := by
  obtain ⟨e1, c1, l1⟩ := x
  obtain ⟨e2, c2, l2⟩ := y
  simp only [partV] at *
  obtain ⟨wa, hwa⟩ : ∃ wa, wa = (w.alloc (.cells #[.int .i64 e1, .slice ca c1.length cc, .int .i64 l1] 36)).alloc (.cells #[.int .i64 e2, .slice cb c2.length cd, .int .i64 l2] 36) := ⟨_, rfl⟩
  have hbwa : Below w.heap.size w wa := by rw [hwa]; exact below_alloc2 _ _ _
  have hi := RInts_any (h.below hbwa) (h'.below hbwa)
  have HI := Lib.hid hi
  obtain ⟨b3, hb3⟩ : ∃ b3, decide (c1 = c2) = b3 := ⟨_, rfl⟩
  rw [hb3] at HI
  have hR : decide ((⟨e1, c1, l1⟩ : Pt) = ⟨e2, c2, l2⟩) = (decide (e1 = e2) && (decide (l1 = l2) && b3)) := by
    rw [← hb3, Bool.eq_iff_iff]
    simp only [Pt.mk.injEq, decide_eq_true_eq, Bool.and_eq_true]
    constructor
    · rintro ⟨a, b, c⟩; exact ⟨a, c, b⟩
    · rintro ⟨a, c, b⟩; exact ⟨a, b, c⟩
  rw [hR]
  have n0 : wa.heap[w.heap.size]? = some (.cells #[.int .i64 e1, .slice ca c1.length cc, .int .i64 l1] 36 (0, 0)) := by rw [hwa, Below.heap_alloc _ _ _ (by simp)]; exact heap_alloc_new _ _
  have n1 : wa.heap[w.heap.size + 1]? = some (.cells #[.int .i64 e2, .slice cb c2.length cd, .int .i64 l2] 36 (0, 0)) := by rw [hwa]; exact heap_new1 _ _ _
  have x0 := cells_of n0 0 _ rfl
  have x1 := cells_of n0 1 _ rfl
  have x2 := cells_of n0 2 _ rfl
  have y0 := cells_of n1 0 _ rfl
  have y1 := cells_of n1 1 _ rfl
  have y2 := cells_of n1 2 _ rfl
  have HB := Lib.hid hbwa
  have hsz : w.heap.size ≤ wa.heap.size := hbwa.size
  clear h h' hi hb3 hR n0 n1 hbwa
  by_cases h1 : e1 = e2
  · subst h1
    by_cases h2 : l1 = l2
    · subst h2
      go_enter Tryz.func83, Tryz.ntmps83
      go_upto_region 1 with fail
      rw [← hwa]
      clear hwa
      go_wp2_with (first | (go_at_call 141; with_reducible refine HI.out.mono ?_; rintro _ w5 ⟨rfl, hb5⟩))
      go_ret
      exact ⟨by simp, HB.out.trans (hb5.mono hsz)⟩
    · go_enter Tryz.func83, Tryz.ntmps83
      go_upto_region 1 with fail
      rw [← hwa]
      clear hwa
      go_wp2
      go_ret
      exact ⟨by simp [h2], HB.out⟩
  · go_enter Tryz.func83, Tryz.ntmps83
    go_upto_region 1 with fail
    rw [← hwa]
    clear hwa
    go_wp2
    go_ret
    exact ⟨by simp [h1], HB.out⟩
end Go.Proofs.YtcpaaleogmiamaaGreatDoor
