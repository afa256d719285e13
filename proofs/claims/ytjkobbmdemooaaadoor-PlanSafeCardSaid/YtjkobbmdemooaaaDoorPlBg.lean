/- The walk of begun; slices of events. -/
import Derived.Test.YtjkobbmdemooaaaDoorPlAt
import Derived.Test.YtjkobbmdemooaaaDoorPlE
namespace Go.Proofs.YtjkobbmdemooaaaDoor
open Go.RowKit

def eventCells (l : List Event) : List Value := l.flatMap fun x => [.int .i64 x.kind, .int .i64 x.node, .int .i64 x.part, .int .i64 x.n]
theorem eventCells_length (l : List Event) : (eventCells l).length = l.length * 4 := by
  induction l with
  | nil => rfl
  | cons x l ih => simp only [eventCells, List.flatMap_cons, List.length_append] at ih ⊢; rw [ih]; simp; omega
theorem eventCells_get (l : List Event) (i : Nat) (h : i < l.length) : (eventCells l)[i * 4]? = some (.int .i64 l[i].kind) ∧ (eventCells l)[i * 4 + 1]? = some (.int .i64 l[i].node) ∧ (eventCells l)[i * 4 + 2]? = some (.int .i64 l[i].part) ∧ (eventCells l)[i * 4 + 3]? = some (.int .i64 l[i].n) := by
  induction l generalizing i with
  | nil => simp at h
  | cons x l ih =>
    cases i with
    | zero => simp [eventCells]
    | succ i =>
      have := ih i (by simpa using h)
      have hc : eventCells (x :: l) = .int .i64 x.kind :: .int .i64 x.node :: .int .i64 x.part :: .int .i64 x.n :: eventCells l := rfl
      have e0 : (i + 1) * 4 = i * 4 + 4 := by omega
      have e1 : (i + 1) * 4 + 1 = i * 4 + 1 + 4 := by omega
      have e2 : (i + 1) * 4 + 2 = i * 4 + 2 + 4 := by omega
      have e3 : (i + 1) * 4 + 3 = i * 4 + 3 + 4 := by omega
      rw [hc, e1, e2, e3, e0]
      simpa using this
def EventsRd (w : World) (v : Value) (l : List Event) : Prop := Rd w 4 v l.length (eventCells l)

theorem EventsRd.below {w w' : World} {v : Value} {l : List Event} (h : EventsRd w v l) (hb : Below w.heap.size w w') : EventsRd w' v l := Rd.below h hb

theorem EventsRd.cells {w : World} {v : Value} {l : List Event} (h : EventsRd w v l) : ∃ a cap, v = .slice a l.length cap ∧ l.length ≤ maxLen ∧
    ∀ k (_ : k < l.length), ∃ b off, a = some ⟨b, off, none⟩ ∧ b < w.heap.size ∧ w.cell? ⟨b, off + k * 4, none⟩ = some (.int .i64 l[k].kind) ∧ w.cell? ⟨b, off + k * 4 + 1, none⟩ = some (.int .i64 l[k].node) ∧
      w.cell? ⟨b, off + k * 4 + 2, none⟩ = some (.int .i64 l[k].part) ∧ w.cell? ⟨b, off + k * 4 + 3, none⟩ = some (.int .i64 l[k].n) := by
  obtain ⟨a, cap, rfl, hc⟩ := Rd.shape h
  refine ⟨a, cap, rfl, Rd.maxlen h, ?_⟩
  intro k hk
  obtain ⟨b, off, cap, e, _, _, hb, hc⟩ := Rd.at h (by omega)
  simp only [Value.slice.injEq, true_and] at e
  have := eventCells_get l k hk
  exact ⟨b, off, e.1, hb, hc _ _ this.1, hc (k * 4 + 1) _ this.2.1, hc (k * 4 + 2) _ this.2.2.1, hc (k * 4 + 3) _ this.2.2.2⟩

theorem u64_mod (s m : Int) (hm : 0 < m) : ∃ n : Nat, (IntKind.u64.wrap s).tmod m = (n : Int) ∧ (n : Int) < m := by
  have h0 : 0 ≤ IntKind.u64.wrap s := by
    rw [IntKind.wrap_u64]
    omega
  have h1 := Int.tmod_nonneg m h0
  obtain ⟨n, hn⟩ := Int.eq_ofNat_of_zero_le h1
  exact ⟨n, hn, by rw [← hn]; exact Int.tmod_lt_of_pos _ hm⟩

set_option maxRecDepth 100000 in
set_option maxHeartbeats 2000000 in
theorem begun_any (s0 s1 s2 : Int) (w : World) : Calls Tryd.prog 9 #[.agg #[.int .i64 s0, .int .i64 s1, .int .i64 s2]] w fun e w' =>
    ∃ (pa la : Option Addr) (pc lc l j n p c : Nat) (n' k' : Int), e = .returned (.agg #[.int .i64 n', .int .i64 k', .slice pa l pc, .slice la j lc]) ∧ newOkB n p c = true ∧ PlanFrom w' w.heap.size (.agg #[.int .i64 n', .int .i64 k', .slice pa l pc, .slice la j lc]) (newP n p c) ∧ Below w.heap.size w w' := by
  obtain ⟨n0, e0, l0⟩ := u64_mod s0 5 (by omega)
  obtain ⟨c0, e1, l1⟩ := u64_mod s1 ((n0 : Int) + 1) (by omega)
  obtain ⟨p0, e2, l2⟩ := u64_mod s2 3 (by omega)
  obtain ⟨n, hn⟩ : ∃ n, n = n0 + 1 := ⟨_, rfl⟩
  obtain ⟨c, hc⟩ : ∃ c, c = c0 + 1 := ⟨_, rfl⟩
  obtain ⟨p, hp⟩ : ∃ p, p = p0 + 2 := ⟨_, rfl⟩
  have hok : newOkB n p c = true := by simp [newOkB, inB_iff]; omega
  have hnew : ∀ W, Calls Tryd.prog 19 #[.agg #[.int .i64 n, .int .i64 0, .int .i64 p, .int .i64 c, .int .i64 0, .int .i64 0, .int .i64 0, .int .i64 0]] W fun e w' =>
      ∃ pa pc la lc, e = .returned (.tuple #[.agg #[.int .i64 n, .int .i64 c, .slice pa p pc, .slice la 0 lc], .int .i64 0]) ∧ PlanFrom w' W.heap.size (.agg #[.int .i64 n, .int .i64 c, .slice pa p pc, .slice la 0 lc]) (newP n p c) ∧ Below W.heap.size W w' := by
    intro W
    refine (New_yes n p c 0 0 0 0 0 W hok).mono ?_
    rintro e w' ⟨v, rfl, h, hb⟩
    have h0 := h
    obtain ⟨pv, lv, rfl, hp, hl⟩ := h.rd
    obtain ⟨pa, pc, rfl, -⟩ := hp.cells
    obtain ⟨la, lc, rfl, -⟩ := hl.cells
    have hl1 : (newP n p c).parts.length = p := by simp [newP]
    have hl2 : (newP n p c).lives.length = 0 := by simp [newP]
    rw [hl1, hl2] at h0 ⊢
    exact ⟨pa, pc, la, lc, rfl, h0, hb⟩
  have HNEW := Lib.hid hnew
  have HOK := Lib.hid hok
  have q0 : wrap64 (1 + wrap64 ((IntKind.u64.wrap s0).tmod 5)) = (n : Int) := by
    rw [e0]
    have h1 : wrap64 (n0 : Int) = n0 := IntWalk.wrap64_in _ (by omega)
    rw [h1]
    have h2 : wrap64 (1 + (n0 : Int)) = 1 + n0 := IntWalk.wrap64_in _ (by omega)
    rw [h2]; omega
  have q1 : IntKind.u64.wrap (n : Int) = (n : Int) := IntWalk.u64_in _ (by omega)
  have q2 : (IntKind.u64.wrap s1).tmod (n : Int) = (c0 : Int) := by rw [← e1]; congr 1; omega
  have q3 : IntKind.i64.wrap (c0 : Int) = (c0 : Int) := IntWalk.i64_in _ (by omega)
  have q4 : IntKind.i64.wrap (1 + (c0 : Int)) = (c : Int) := by rw [IntWalk.i64_in _ (by omega)]; omega
  have q6 : IntKind.i64.wrap (p0 : Int) = (p0 : Int) := IntWalk.i64_in _ (by omega)
  have q7 : IntKind.i64.wrap (2 + (p0 : Int)) = (p : Int) := by rw [IntWalk.i64_in _ (by omega)]; omega
  have q8 : ¬ (n : Int) = 0 := by omega
  have q9 : ¬ n = 0 := by omega
  clear hnew hok e0 e1 hn hc hp l0 l1 l2
  have Q0 := Lib.hid q0
  clear q0
  obtain ⟨wa, hwa⟩ : ∃ wa, wa = (w.alloc (.cells #[.int .i64 s0, .int .i64 s1, .int .i64 s2] 22)).alloc (.cells #[.int .i64 0, .int .i64 0, .slice none 0 0, .slice none 0 0] 28) := ⟨_, rfl⟩
  have hbwa : Below w.heap.size w wa := by rw [hwa]; exact below_alloc2 _ _ _
  have b0 : wa.heap[w.heap.size]? = some (.cells #[.int .i64 s0, .int .i64 s1, .int .i64 s2] 22 (0, 0)) := by rw [hwa, Below.heap_alloc _ _ _ (by simp)]; exact heap_alloc_new _ _
  have b1 : wa.heap[w.heap.size + 1]? = some (.cells #[.int .i64 0, .int .i64 0, .slice none 0 0, .slice none 0 0] 28 (0, 0)) := by rw [hwa]; exact heap_new1 _ _ _
  have hsz : wa.heap.size = w.heap.size + 2 := by rw [hwa]; simp
  have x1 := cells_of b0 1 _ rfl
  have x2 := cells_of b0 2 _ rfl
  have hal : ∀ w5, Below (wa.alloc (.cells #[.int .i64 0, .int .i64 0, .slice none 0 0, .slice none 0 0] 28)).drew.heap.size (wa.alloc (.cells #[.int .i64 0, .int .i64 0, .slice none 0 0, .slice none 0 0] 28)).drew w5 →
      w5.heap[wa.heap.size]? = some (.cells #[.int .i64 0, .int .i64 0, .slice none 0 0, .slice none 0 0] 28 (0, 0)) := by
    intro w5 hb
    exact (hb.block wa.heap.size (by simp)).trans (heap_alloc_new wa _)
  have HAL := Lib.hid hal
  clear hal
  have xa1 : ∀ o, (wa.alloc o).cell? ⟨w.heap.size, 1, none⟩ = some (.int .i64 s1) := fun o => below_some (below_alloc wa o) x1 (by omega)
  have xa2 : ∀ o, (wa.alloc o).cell? ⟨w.heap.size, 2, none⟩ = some (.int .i64 s2) := fun o => below_some (below_alloc wa o) x2 (by omega)
  have HB := Lib.hid (And.intro hbwa (And.intro b1 (And.intro hsz b0)))
  clear hbwa b0 b1 hsz
  go_enter Tryd.func9, Tryd.ntmps9
  go_upto_region 2 with fail
  rw [← hwa, Q0.out]
  clear hwa
  go_cut [4, 5] from 12 to 31 (fun v4 _ wx => ∃ (X : Nat), v4 = .pointer (some ⟨X, 0, none⟩) ∧ PlanAt wx wa.heap.size X (newP n p c) ∧ Below wa.heap.size wa wx)
  case first =>
    go_region_law
      (first
        | (go_simp; go_at_call 19; refine (HNEW.out _).mono ?_; rintro e w5 ⟨pa, pc, la, lc, rfl, h5, hb5⟩; (first | (have hz := HAL.out w5 hb5; have z0 := cells_of hz 0 _ rfl; have z1 := cells_of hz 1 _ rfl; have z2 := cells_of hz 2 _ rfl; have z3 := cells_of hz 3 _ rfl; have g0 := frozen_of (j := 0) hz; have g1 := frozen_of (j := 1) hz; have g2 := frozen_of (j := 2) hz; have g3 := frozen_of (j := 3) hz) | skip)))
    all_goals
      clear q1 q2 q3 q4 q6 q7 q8 q9
      first
        | have H5 := Lib.hid (cutB h5 hb5)
        | have H5 := Lib.hid (cutA h5 hb5)
      clear h5 hb5
      go_wp2_with fail
      go_meet
      exact ⟨_, rfl, H5.out.1, H5.out.2⟩
  case rest =>
    obtain ⟨X, rfl, hX, hbx⟩ := hcut
    obtain ⟨pa, la, pc, lc, c0, c1, c2, c3, hf⟩ := hX.cells
    have hXs := hX.1
    have hsz := hbx.size
    obtain ⟨hbwa, b1, hs2, b0⟩ := HB.out
    have z := (hbx.block (w.heap.size + 1) (by omega)).trans b1
    have z0 := cells_of z 0 _ rfl
    have z1 := cells_of z 1 _ rfl
    have z2 := cells_of z 2 _ rfl
    have z3 := cells_of z 3 _ rfl
    have g0 := frozen_of (j := 0) z
    have g1 := frozen_of (j := 1) z
    have g2 := frozen_of (j := 2) z
    have g3 := frozen_of (j := 3) z
    have HZ := Lib.hid (And.intro z (And.intro hbx (And.intro hf (And.intro hs2 hbwa))))
    clear hX hXs hsz hbwa b1 hs2 b0 z hbx hf
    go_wp2_with fail
    obtain ⟨z, hbx, hf, hs2, hbwa⟩ := HZ.out
    have hsz := hbx.size
    have hfin := setCell_same (o := 3) (v := .slice la (newP n p c).lives.length lc) (setCell_same (o := 2) (v := .slice pa (newP n p c).parts.length pc) (setCell_same (o := 1) (v := .int .i64 (newP n p c).copies) (setCell_same (o := 0) (v := .int .i64 (newP n p c).nodes) z)))
    have r0 := cells_of hfin 0 _ rfl
    have r1 := cells_of hfin 1 _ rfl
    have r2 := cells_of hfin 2 _ rfl
    have r3 := cells_of hfin 3 _ rfl
    have hset := upd_set4 wc (w.heap.size + 1) (.int .i64 (newP n p c).nodes) (.int .i64 (newP n p c).copies) (.slice pa (newP n p c).parts.length pc) (.slice la (newP n p c).lives.length lc)
    refine bodyPost_ret (v := .agg #[.int .i64 (newP n p c).nodes, .int .i64 (newP n p c).copies, .slice pa (newP n p c).parts.length pc, .slice la (newP n p c).lives.length lc]) (by simp [results, Tryd.results9, go_sem, r0, r1, r2, r3]) rfl ⟨pa, la, pc, lc, _, _, n, p, c, _, _, rfl, HOK.out, (hf.upd hset (fun k e => by omega)).mono (by omega), ?_⟩
    exact hbwa.trans ((hbx.mono (by omega)).trans (hset.toBelow (by omega) (fun k e => by omega)))

/-- A plan and an event stand where Apply's call reads them, in every world behind this one. -/
def Ready (wr : World) (X : Nat) (p : Pl) (pa la : Option Addr) (pc lc b o : Nat) (x : Event) : Prop := ∀ W, Below wr.heap.size wr W →
  (W.cell? ⟨X, 0, none⟩ = some (.int .i64 p.nodes) ∧ W.cell? ⟨X, 1, none⟩ = some (.int .i64 p.copies) ∧ W.cell? ⟨X, 2, none⟩ = some (.slice pa p.parts.length pc) ∧ W.cell? ⟨X, 3, none⟩ = some (.slice la p.lives.length lc) ∧
    W.cell? ⟨b, o, none⟩ = some (.int .i64 x.kind) ∧ W.cell? ⟨b, o + 1, none⟩ = some (.int .i64 x.node) ∧ W.cell? ⟨b, o + 2, none⟩ = some (.int .i64 x.part) ∧ W.cell? ⟨b, o + 3, none⟩ = some (.int .i64 x.n)) ∧
  PlanRd W (.agg #[.int .i64 p.nodes, .int .i64 p.copies, .slice pa p.parts.length pc, .slice la p.lives.length lc]) p

theorem Ready.later {wr wx : World} {X : Nat} {p : Pl} {pa la : Option Addr} {pc lc b o : Nat} {x : Event} (h : Ready wr X p pa la pc lc b o x) (hb : Below wr.heap.size wr wx) : Ready wx X p pa la pc lc b o x :=
  fun W hW => h W (hb.trans (hW.mono hb.size))

theorem Ready.make {w wr : World} {N X : Nat} {p : Pl} {b o : Nat} {x : Event} (h : PlanAt wr N X p) (hw : Below w.heap.size w wr) (hb : b < w.heap.size)
    (c0 : w.cell? ⟨b, o, none⟩ = some (.int .i64 x.kind)) (c1 : w.cell? ⟨b, o + 1, none⟩ = some (.int .i64 x.node)) (c2 : w.cell? ⟨b, o + 2, none⟩ = some (.int .i64 x.part)) (c3 : w.cell? ⟨b, o + 3, none⟩ = some (.int .i64 x.n)) :
    ∃ (pa la : Option Addr) (pc lc : Nat), Ready wr X p pa la pc lc b o x := by
  obtain ⟨h1, h2, pa, la, pc, lc, h3, h4⟩ := h
  refine ⟨pa, la, pc, lc, fun W hW => ?_⟩
  have hk := (hW.block X h2).trans h3
  have hw2 : Below w.heap.size w W := hw.trans (hW.mono hw.size)
  exact ⟨⟨cells_of hk 0 _ rfl, cells_of hk 1 _ rfl, cells_of hk 2 _ rfl, cells_of hk 3 _ rfl, below_some hw2 c0 hb, below_some hw2 c1 hb, below_some hw2 c2 hb, below_some hw2 c3 hb⟩, h4.rd.below hW⟩

theorem Ready.apply {wr : World} {X : Nat} {p : Pl} {pa la : Option Addr} {pc lc b o : Nat} {x : Event} (h : Ready wr X p pa la pc lc b o x) {R : Pl × List Int × Int} (hR : applyP p x = R) (W : World) (hW : Below wr.heap.size wr W) :
    Calls Tryd.prog 10 #[.agg #[.int .i64 p.nodes, .int .i64 p.copies, .slice pa p.parts.length pc, .slice la p.lives.length lc], .agg #[.int .i64 x.kind, .int .i64 x.node, .int .i64 x.part, .int .i64 x.n]] W fun e w' =>
      ∃ (pa la ta : Option Addr) (pc lc tc l j m : Nat) (n k : Int), e = .returned (.tuple #[.agg #[.int .i64 n, .int .i64 k, .slice pa l pc, .slice la j lc], .slice ta m tc, .int .i64 R.2.2]) ∧
        PlanFrom w' W.heap.size (.agg #[.int .i64 n, .int .i64 k, .slice pa l pc, .slice la j lc]) R.1 ∧ TurnRd w' (.slice ta m tc) R.2.1 ∧ m = R.2.1.length ∧ Below W.heap.size W w' := by
  subst hR
  exact Apply_out (h W hW).2 x

theorem zero_kept {wr w5 : World} {z0 z1 z2 z3 : Value} (hb : Below (wr.alloc (.cells #[z0, z1, z2, z3] 28)).drew.heap.size (wr.alloc (.cells #[z0, z1, z2, z3] 28)).drew w5) :
    w5.heap[wr.heap.size]? = some (.cells #[z0, z1, z2, z3] 28 (0, 0)) :=
  (hb.block wr.heap.size (by simp)).trans (heap_alloc_new wr _)
end Go.Proofs.YtjkobbmdemooaaaDoor
