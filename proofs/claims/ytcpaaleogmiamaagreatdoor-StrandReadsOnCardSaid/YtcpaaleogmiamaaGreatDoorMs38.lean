/- Rows of acts of the strand's laws; the walk of heliographlaw07.great. -/
/- append of any slice that is read to a row of one's own; where the longer row lies. -/
import Derived.Test.YtcpaaleogmiamaaGreatDoorMs35
import Derived.Test.YtcpaaleogmiamaaGreatDoorMs37
import Derived.Test.YtcpaaleogmiamaaGreatDoorMs27
import Derived.Laws.AppendOwnNone
import Derived.Deep.AppendLies
namespace Go.Proofs.YtcpaaleogmiamaaGreatDoor
open Go.RowKit

/-- An act. -/
structure SAct where
  kind : Int
  b : Batch
  next : Bool
  n : Int
  less : List Int
  fates : List Int
  name : ByteArray
structure SActV where
  rv : Value
  lv : Value
  fv : Value
def saEl (y : SActV × SAct) : List Value := [.int .i64 y.2.kind, .int .i64 y.2.b.base, .int .i64 y.2.b.count, .int .i64 y.2.b.prod, .int .i64 y.2.b.seq, .int .i64 y.2.b.time, y.1.rv, .bool y.2.next, .int .i64 y.2.n, y.1.lv, y.1.fv, .string y.2.name]
def ActRd (w : World) (y : SActV × SAct) : Prop := RcsRd w y.1.rv y.2.b.recs ∧ IntsRd w y.1.lv y.2.less ∧ IntsRd w y.1.fv y.2.fates
def SActsRd (w : World) (v : Value) (A : List SAct) : Prop := ∃ m : List (SActV × SAct), m.map (·.2) = A ∧ Rd w 12 v m.length (m.flatMap saEl) ∧ ∀ y ∈ m, ActRd w y
theorem SActsRd.below {w w' : World} {v : Value} {A : List SAct} (h : SActsRd w v A) (hb : Below w.heap.size w w') : SActsRd w' v A := by
  obtain ⟨m, h1, h2, h3⟩ := h
  exact ⟨m, h1, h2.below hb, fun y hy => ⟨(h3 y hy).1.below hb, (h3 y hy).2.1.below hb, (h3 y hy).2.2.below hb⟩⟩
theorem SActsRd.shape {w : World} {v : Value} {A : List SAct} (h : SActsRd w v A) : ∃ a c, v = .slice a A.length c ∧ A.length ≤ maxLen := by
  obtain ⟨m, rfl, h1, -⟩ := h
  obtain ⟨a, c, e, -⟩ := h1.shape
  exact ⟨a, c, by rw [e, List.length_map], by rw [List.length_map]; exact h1.maxlen⟩
theorem SActsRd.at {w : World} {a : Option Addr} {n c : Nat} {A : List SAct} (h : SActsRd w (.slice a n c) A) (i : Nat) (hi : i < A.length) :
    ∃ b off ra rc la lc fa fc, a = some ⟨b, off, none⟩ ∧ w.cell? ⟨b, off + i * 12, none⟩ = some (.int .i64 A[i].kind) ∧ w.cell? ⟨b, off + i * 12 + 1, none⟩ = some (.int .i64 A[i].b.base) ∧ w.cell? ⟨b, off + i * 12 + 2, none⟩ = some (.int .i64 A[i].b.count) ∧
      w.cell? ⟨b, off + i * 12 + 3, none⟩ = some (.int .i64 A[i].b.prod) ∧ w.cell? ⟨b, off + i * 12 + 4, none⟩ = some (.int .i64 A[i].b.seq) ∧ w.cell? ⟨b, off + i * 12 + 5, none⟩ = some (.int .i64 A[i].b.time) ∧ w.cell? ⟨b, off + i * 12 + 6, none⟩ = some (.slice ra A[i].b.recs.length rc) ∧
      w.cell? ⟨b, off + i * 12 + 7, none⟩ = some (.bool A[i].next) ∧ w.cell? ⟨b, off + i * 12 + 8, none⟩ = some (.int .i64 A[i].n) ∧ w.cell? ⟨b, off + i * 12 + 9, none⟩ = some (.slice la A[i].less.length lc) ∧ w.cell? ⟨b, off + i * 12 + 10, none⟩ = some (.slice fa A[i].fates.length fc) ∧
      w.cell? ⟨b, off + i * 12 + 11, none⟩ = some (.string A[i].name) ∧ RcsRd w (.slice ra A[i].b.recs.length rc) A[i].b.recs ∧ IntsRd w (.slice la A[i].less.length lc) A[i].less ∧ IntsRd w (.slice fa A[i].fates.length fc) A[i].fates := by
  obtain ⟨m, rfl, h1, h2⟩ := h
  have hi' : i < m.length := by simpa using hi
  obtain ⟨b, off, cap, e, -, -, -, hc⟩ := Rd.at h1 (by omega)
  simp only [Value.slice.injEq] at e
  obtain ⟨hr, hl, hf⟩ := h2 _ (List.getElem_mem hi')
  obtain ⟨ra, rc, er, -⟩ := Rd.shape hr
  obtain ⟨la, lc, el, -⟩ := Rd.shape hl
  obtain ⟨fa, fc, ef, -⟩ := Rd.shape hf
  have ek : (m.map (·.2))[i] = m[i].2 := by simp
  rw [ek]
  have q : ∀ r u, (saEl m[i])[r]? = some u → w.cell? ⟨b, off + (i * 12 + r), none⟩ = some u := fun r u hu => hc _ u (fl_at (sz := 12) (fun _ => rfl) m i hi' r u hu)
  have q6 := q 6 _ rfl
  have q9 := q 9 _ rfl
  have q10 := q 10 _ rfl
  rw [er] at q6
  rw [el] at q9
  rw [ef] at q10
  exact ⟨b, off, ra, rc, la, lc, fa, fc, e.1, q 0 _ rfl, q 1 _ rfl, q 2 _ rfl, q 3 _ rfl, q 4 _ rfl, q 5 _ rfl, q6, q 7 _ rfl, q 8 _ rfl, q9, q10, q 11 _ rfl, by rw [← er]; exact hr, by rw [← el]; exact hl, by rw [← ef]; exact hf⟩

def Small (x : SAct) : Prop := x.b.recs.length ≤ 20 ∧ x.less.length ≤ 50 ∧ x.fates.length ≤ 100 ∧ x.name.size ≤ 1000
/-- What great tells. -/
def Gr7To (w : World) (A : List SAct) (e : Ending) (w' : World) : Prop := (∃ g, e = .returned (.bool g) ∧ (g = false → ∀ i (hi : i < A.length), i < 60 → Small A[i])) ∧ w' = w

set_option maxRecDepth 100000 in
set_option maxHeartbeats 4000000 in
theorem L7great_any {w : World} {v : Value} {A : List SAct} (h : SActsRd w v A) : Calls Tryz.prog 29 #[v] w (Gr7To w A) := by
  obtain ⟨a, c, rfl, hml⟩ := h.shape
  have hml2 : (A.length : Int) ≤ 9223372036854775807 := by unfold maxLen at hml; omega
  have H := Lib.hid h
  clear h hml
  go_enter Tryz.func29, Tryz.ntmps29
  go_wp2
  go_loopg [3] A.length (fun gk v3 wt => ∃ k : Nat, k ≤ A.length ∧ gk = A.length - k ∧ v3 = .int .i64 k ∧ wt = w ∧ ∀ i (hi : i < A.length), i < k → Small A[i])
  case atStart => exact ⟨0, Nat.zero_le _, rfl, rfl, rfl, fun i _ h => absurd h (Nat.not_lt_zero _)⟩
  case round =>
    obtain ⟨k, hk, rfl, rfl, hwr, hsm⟩ := hrel
    subst hwr
    have HSM := Lib.hid hsm
    clear hsm
    by_cases hkt : k < A.length
    · have j1 : (k : Int) < (A.length : Int) := by omega
      have j2 : (0 : Int) ≤ (k : Int) := by omega
      by_cases h60 : k < 60
      · have j3 : (k : Int) < 60 := by omega
        obtain ⟨b, off, ra, rc, la, lc, fa, fc, rfl, -, -, -, -, -, -, x6, -, -, x9, x10, x11, hr, -, -⟩ := H.out.at k hkt
        obtain ⟨x, hx⟩ : ∃ x, A[k] = x := ⟨_, rfl⟩
        rw [hx] at x6 x9 x10 x11 hr
        by_cases c0 : (20 : Int) < (x.b.recs.length : Int)
        · clear hr
          go_wp2
          go_ret
          exact ⟨⟨true, rfl, fun h => by cases h⟩, rfl⟩
        by_cases c1 : (50 : Int) < (x.less.length : Int)
        · clear hr
          go_wp2
          go_ret
          exact ⟨⟨true, rfl, fun h => by cases h⟩, rfl⟩
        by_cases c2 : (100 : Int) < (x.fates.length : Int)
        · clear hr
          go_wp2
          go_ret
          exact ⟨⟨true, rfl, fun h => by cases h⟩, rfl⟩
        by_cases c3 : (1000 : Int) < (x.name.size : Int)
        · clear hr
          go_wp2
          go_ret
          exact ⟨⟨true, rfl, fun h => by cases h⟩, rfl⟩
        have hS : Small x := ⟨by omega, by omega, by omega, by omega⟩
        have hcells := hr.cells
        obtain ⟨ra', rc', e, -, -, hrc⟩ := hcells
        simp only [Value.slice.injEq, true_and] at e
        have HRC := Lib.hid hrc
        have HS := Lib.hid hS
        have HX := Lib.hid hx
        have hrl : (x.b.recs.length : Int) ≤ 20 := by omega
        clear hr hrc hS hx
        obtain ⟨wf, hwf⟩ : ∃ wf, wf = wr := ⟨_, rfl⟩
        have HWF := Lib.hid hwf
        clear hwf
        go_upto_region 7 with fail
        go_loopg [4] x.b.recs.length (fun gj v4 wt => ∃ j : Nat, j ≤ x.b.recs.length ∧ gj = x.b.recs.length - j ∧ v4 = .int .i64 j ∧ wt = wf)
        case atStart => exact ⟨0, Nat.zero_le _, rfl, rfl, HWF.out.symm⟩
        case round =>
          obtain ⟨j, hj, rfl, rfl, hwr2⟩ := hrel
          have e2 := hwr2.trans HWF.out
          subst e2
          clear hwr2
          by_cases hjt : j < x.b.recs.length
          · obtain ⟨rb, ro, era, -, r0, r1, r2, r3⟩ := HRC.out j hjt
            subst era
            have i1 : (j : Int) < (x.b.recs.length : Int) := by omega
            have i2 : (0 : Int) ≤ (j : Int) := by omega
            by_cases d1 : (200 : Int) < ((x.b.recs[j]).key.size : Int)
            · go_wp2
              go_ret
              exact ⟨⟨true, rfl, fun h => by cases h⟩, rfl⟩
            by_cases d2 : (200 : Int) < ((x.b.recs[j]).val.size : Int)
            · go_wp2
              go_ret
              exact ⟨⟨true, rfl, fun h => by cases h⟩, rfl⟩
            go_wp2
            go_roundg (x.b.recs.length - (j + 1))
            case measure => omega
            case rel => exact ⟨j + 1, by omega, rfl, by go_num, HWF.out.symm⟩
          · obtain rfl : j = x.b.recs.length := by omega
            have i1 : ¬ (x.b.recs.length : Int) < (x.b.recs.length : Int) := by omega
            go_wp2
            go_roundg (A.length - (k + 1))
            case measure => omega
            case rel =>
              refine ⟨k + 1, by omega, rfl, by go_num, rfl, fun i hi hi2 => ?_⟩
              by_cases e : i = k
              · subst e
                rw [HX.out]
                exact HS.out
              · exact HSM.out i hi (by omega)
      · have j3 : ¬ (k : Int) < 60 := by omega
        go_wp2
        go_ret
        exact ⟨⟨false, rfl, fun _ i hi hi2 => HSM.out i hi (by omega)⟩, rfl⟩
    · have j1 : ¬ (k : Int) < (A.length : Int) := by omega
      go_wp2
      go_ret
      exact ⟨⟨false, rfl, fun _ i hi hi2 => HSM.out i hi (by omega)⟩, rfl⟩
end Go.Proofs.YtcpaaleogmiamaaGreatDoor
namespace Go.Proofs.YtcpaaleogmiamaaGreatDoor
open Go.RowKit

theorem wpList_append_any {w : World} {ops : Array Oper} {rest : List Oper} {o : Oper} {a : Act} {Q : Exit → Act → World → Prop} (hgd : o.guard = none) (s x : Operand) (t : TypeId)
    (ho : o.op = .call { callee := .builtin .append, args := #[s, x], argTypes := #[t, t] })
    (base : Nat) (e : TypeId) (i : TypeInfo) (z : Value) (size bytes : Nat) (ht : Tryz.prog.underlying t = some (.slice e)) (hi : Tryz.prog.info? e = some i) (hz : i.zero = some z)
    (hsize : i.size = size) (hby : i.bytes = bytes) (hzs : z.cells.size = size) (hsz : 0 < size)
    (v : Value) (n : Nat) (xs : List Value) (hs : a.eval s = v) (hown : w.ownsRow base e size v n xs)
    (xv : Value) (m : Nat) (news : List Value) (hx : a.eval x = xv) (hrd : Rd w size xv m news) (h1 : ∀ u ∈ news, u.oneCell' = true)
    (h63 : n + m ≤ maxLen) (hbytes : (n + m) * bytes ≤ 140737488355328) (hbase : base ≤ w.heap.size)
    (h : ∀ a' c' w', w'.ownsRow base e size (.slice a' (n + m) c') (n + m) (xs ++ news) → w.grownBy w' v.ownBlock → ((Value.slice a' (n + m) c').ownBlock = v.ownBlock ∨ (Value.slice a' (n + m) c').ownBlock = some w.heap.size) → wpList Tryz.prog ops Q rest (a.put o.dst (.slice a' (n + m) c')) w') : wpList Tryz.prog ops Q (o :: rest) a w := by
  rcases hrd.2 with ⟨h0, rfl⟩ | ⟨ad, cap, h0, hle, hcap, hc⟩
  · have hn : news = [] := by
      have := hrd.1
      simpa using this
    subst hn
    obtain ⟨va, vc, hv, -⟩ := (Sl.of_owns hown).shape
    refine wpList_append_own_none hgd s x t ho base e i size ht hi v n xs hs hown (hx.trans h0) ?_
    have := h va vc w (by rw [List.append_nil, Nat.add_zero, ← hv]; exact hown) (World.grownBy.refl _ _) (.inl (by rw [Nat.add_zero, ← hv]))
    rw [Nat.add_zero, ← hv] at this
    exact this
  · refine wpList_plain hgd fun _ hK => ?_
    obtain ⟨v', w', hr, h2, h3, -, h5⟩ := run_append_own_at (P := Tryz.prog) (w := w) base t o.type e i z size bytes ht hi hz hsize hby hzs hsz v n xs hown ad m cap news hrd.1 hc h1 h63 hbytes hbase
    obtain ⟨va, vc, hv, -⟩ := (Sl.of_owns h2).shape
    have hx2 := hx.trans h0
    unfold Oper.wp execOp
    simp only [ho, resolve, invoke, builtin, Sem.run_bind, Sem.run_pure, Result.andThen_ok, List.map_toArray, List.map_cons, List.map_nil, hs, hx2, hr]
    rw [hv] at h2 h5 ⊢
    exact hK _ _ (h va vc w' h2 h3 h5)
theorem set6 {w : World} {b : Nat} {T : TypeId} {x0 x1 x2 x3 x4 x5 : Value} (h : w.heap[b]? = some (.cells #[x0, x1, x2, x3, x4, x5] T (0, 0))) (y0 y1 y2 y3 y4 y5 : Value) :
    ((((((w.setCell ⟨b, 0, none⟩ y0).setCell ⟨b, 1, none⟩ y1).setCell ⟨b, 2, none⟩ y2).setCell ⟨b, 3, none⟩ y3).setCell ⟨b, 4, none⟩ y4).setCell ⟨b, 5, none⟩ y5).heap[b]? = some (.cells #[y0, y1, y2, y3, y4, y5] T (0, 0)) ∧
    Upd (fun k => k = b) w ((((((w.setCell ⟨b, 0, none⟩ y0).setCell ⟨b, 1, none⟩ y1).setCell ⟨b, 2, none⟩ y2).setCell ⟨b, 3, none⟩ y3).setCell ⟨b, 4, none⟩ y4).setCell ⟨b, 5, none⟩ y5) :=
  ⟨setCell_same (o := 5) (v := y5) (setCell_same (o := 4) (v := y4) (setCell_same (o := 3) (v := y3) (setCell_same (o := 2) (v := y2) (setCell_same (o := 1) (v := y1) (setCell_same (o := 0) (v := y0) h))))),
    (((((upd_set1 w b 0 y0).trans (upd_set1 _ b 1 y1)).trans (upd_set1 _ b 2 y2)).trans (upd_set1 _ b 3 y3)).trans (upd_set1 _ b 4 y4)).trans (upd_set1 _ b 5 y5)⟩
end Go.Proofs.YtcpaaleogmiamaaGreatDoor
