/- Rows of acts of the strand's laws; the walk of heliographlaw07.great. -/
/- append of any slice that is read to a row of one's own; where the longer row lies. -/
/- The walk of heliographlaw07.next. -/
import Derived.Test.YtcpaaleogmiamaaGreatDoorMp29
import Derived.Test.YtcpaaleogmiamaaGreatDoorMp31
import Derived.Test.YtcpaaleogmiamaaGreatDoorMp21
import Derived.Laws.AppendOwnNone
import Derived.Deep.AppendLies
namespace Go.Proofs.YtcpaaleogmiamaaGreatDoor
open Go.RowKit

/-- An act. -/
structure SAct where
  kind : Int
  b : Batch
  next : Bool
  n : Int
  less : List Int
  fates : List Int
  name : ByteArray
structure SActV where
  rv : Value
  lv : Value
  fv : Value
def saEl (y : SActV × SAct) : List Value := [.int .i64 y.2.kind, .int .i64 y.2.b.base, .int .i64 y.2.b.count, .int .i64 y.2.b.prod, .int .i64 y.2.b.seq, .int .i64 y.2.b.time, y.1.rv, .bool y.2.next, .int .i64 y.2.n, y.1.lv, y.1.fv, .string y.2.name]
def ActRd (w : World) (y : SActV × SAct) : Prop := RcsRd w y.1.rv y.2.b.recs ∧ IntsRd w y.1.lv y.2.less ∧ IntsRd w y.1.fv y.2.fates
def SActsRd (w : World) (v : Value) (A : List SAct) : Prop := ∃ m : List (SActV × SAct), m.map (·.2) = A ∧ Rd w 12 v m.length (m.flatMap saEl) ∧ ∀ y ∈ m, ActRd w y
theorem SActsRd.below {w w' : World} {v : Value} {A : List SAct} (h : SActsRd w v A) (hb : Below w.heap.size w w') : SActsRd w' v A := by
  obtain ⟨m, h1, h2, h3⟩ := h
  exact ⟨m, h1, h2.below hb, fun y hy => ⟨(h3 y hy).1.below hb, (h3 y hy).2.1.below hb, (h3 y hy).2.2.below hb⟩⟩
theorem SActsRd.shape {w : World} {v : Value} {A : List SAct} (h : SActsRd w v A) : ∃ a c, v = .slice a A.length c ∧ A.length ≤ maxLen := by
  obtain ⟨m, rfl, h1, -⟩ := h
  obtain ⟨a, c, e, -⟩ := h1.shape
  exact ⟨a, c, by rw [e, List.length_map], by rw [List.length_map]; exact h1.maxlen⟩
theorem SActsRd.at {w : World} {a : Option Addr} {n c : Nat} {A : List SAct} (h : SActsRd w (.slice a n c) A) (i : Nat) (hi : i < A.length) :
    ∃ b off ra rc la lc fa fc, a = some ⟨b, off, none⟩ ∧ w.cell? ⟨b, off + i * 12, none⟩ = some (.int .i64 A[i].kind) ∧ w.cell? ⟨b, off + i * 12 + 1, none⟩ = some (.int .i64 A[i].b.base) ∧ w.cell? ⟨b, off + i * 12 + 2, none⟩ = some (.int .i64 A[i].b.count) ∧
      w.cell? ⟨b, off + i * 12 + 3, none⟩ = some (.int .i64 A[i].b.prod) ∧ w.cell? ⟨b, off + i * 12 + 4, none⟩ = some (.int .i64 A[i].b.seq) ∧ w.cell? ⟨b, off + i * 12 + 5, none⟩ = some (.int .i64 A[i].b.time) ∧ w.cell? ⟨b, off + i * 12 + 6, none⟩ = some (.slice ra A[i].b.recs.length rc) ∧
      w.cell? ⟨b, off + i * 12 + 7, none⟩ = some (.bool A[i].next) ∧ w.cell? ⟨b, off + i * 12 + 8, none⟩ = some (.int .i64 A[i].n) ∧ w.cell? ⟨b, off + i * 12 + 9, none⟩ = some (.slice la A[i].less.length lc) ∧ w.cell? ⟨b, off + i * 12 + 10, none⟩ = some (.slice fa A[i].fates.length fc) ∧
      w.cell? ⟨b, off + i * 12 + 11, none⟩ = some (.string A[i].name) ∧ RcsRd w (.slice ra A[i].b.recs.length rc) A[i].b.recs ∧ IntsRd w (.slice la A[i].less.length lc) A[i].less ∧ IntsRd w (.slice fa A[i].fates.length fc) A[i].fates := by
  obtain ⟨m, rfl, h1, h2⟩ := h
  have hi' : i < m.length := by simpa using hi
  obtain ⟨b, off, cap, e, -, -, -, hc⟩ := Rd.at h1 (by omega)
  simp only [Value.slice.injEq] at e
  obtain ⟨hr, hl, hf⟩ := h2 _ (List.getElem_mem hi')
  obtain ⟨ra, rc, er, -⟩ := Rd.shape hr
  obtain ⟨la, lc, el, -⟩ := Rd.shape hl
  obtain ⟨fa, fc, ef, -⟩ := Rd.shape hf
  have ek : (m.map (·.2))[i] = m[i].2 := by simp
  rw [ek]
  have q : ∀ r u, (saEl m[i])[r]? = some u → w.cell? ⟨b, off + (i * 12 + r), none⟩ = some u := fun r u hu => hc _ u (fl_at (sz := 12) (fun _ => rfl) m i hi' r u hu)
  have q6 := q 6 _ rfl
  have q9 := q 9 _ rfl
  have q10 := q 10 _ rfl
  rw [er] at q6
  rw [el] at q9
  rw [ef] at q10
  exact ⟨b, off, ra, rc, la, lc, fa, fc, e.1, q 0 _ rfl, q 1 _ rfl, q 2 _ rfl, q 3 _ rfl, q 4 _ rfl, q 5 _ rfl, q6, q 7 _ rfl, q 8 _ rfl, q9, q10, q 11 _ rfl, by rw [← er]; exact hr, by rw [← el]; exact hl, by rw [← ef]; exact hf⟩

def Small (x : SAct) : Prop := x.b.recs.length ≤ 20 ∧ x.less.length ≤ 50 ∧ x.fates.length ≤ 100 ∧ x.name.size ≤ 1000
/-- What great tells. -/
def Gr7To (w : World) (A : List SAct) (e : Ending) (w' : World) : Prop := (∃ g, e = .returned (.bool g) ∧ (g = false → ∀ i (hi : i < A.length), i < 60 → Small A[i])) ∧ w' = w

set_option maxRecDepth 100000 in
set_option maxHeartbeats 4000000 in
theorem L7great_any {w : World} {v : Value} {A : List SAct} (h : SActsRd w v A) : Calls Tryz.prog 29 #[v] w (Gr7To w A) := by
  obtain ⟨a, c, rfl, hml⟩ := h.shape
  have hml2 : (A.length : Int) ≤ 9223372036854775807 := by unfold maxLen at hml; omega
  have H := Lib.hid h
  clear h hml
  go_enter Tryz.func29, Tryz.ntmps29
  go_wp2
  go_loopg [3] A.length (fun gk v3 wt => ∃ k : Nat, k ≤ A.length ∧ gk = A.length - k ∧ v3 = .int .i64 k ∧ wt = w ∧ ∀ i (hi : i < A.length), i < k → Small A[i])
  case atStart => exact ⟨0, Nat.zero_le _, rfl, rfl, rfl, fun i _ h => absurd h (Nat.not_lt_zero _)⟩
  case round =>
    obtain ⟨k, hk, rfl, rfl, hwr, hsm⟩ := hrel
    subst hwr
    have HSM := Lib.hid hsm
    clear hsm
    by_cases hkt : k < A.length
    · have j1 : (k : Int) < (A.length : Int) := by omega
      have j2 : (0 : Int) ≤ (k : Int) := by omega
      by_cases h60 : k < 60
      · have j3 : (k : Int) < 60 := by omega
        obtain ⟨b, off, ra, rc, la, lc, fa, fc, rfl, -, -, -, -, -, -, x6, -, -, x9, x10, x11, hr, -, -⟩ := H.out.at k hkt
        obtain ⟨x, hx⟩ : ∃ x, A[k] = x := ⟨_, rfl⟩
        rw [hx] at x6 x9 x10 x11 hr
        by_cases c0 : (20 : Int) < (x.b.recs.length : Int)
        · clear hr
          go_wp2
          go_ret
          exact ⟨⟨true, rfl, fun h => by cases h⟩, rfl⟩
        by_cases c1 : (50 : Int) < (x.less.length : Int)
        · clear hr
          go_wp2
          go_ret
          exact ⟨⟨true, rfl, fun h => by cases h⟩, rfl⟩
        by_cases c2 : (100 : Int) < (x.fates.length : Int)
        · clear hr
          go_wp2
          go_ret
          exact ⟨⟨true, rfl, fun h => by cases h⟩, rfl⟩
        by_cases c3 : (1000 : Int) < (x.name.size : Int)
        · clear hr
          go_wp2
          go_ret
          exact ⟨⟨true, rfl, fun h => by cases h⟩, rfl⟩
        have hS : Small x := ⟨by omega, by omega, by omega, by omega⟩
        have hcells := hr.cells
        obtain ⟨ra', rc', e, -, -, hrc⟩ := hcells
        simp only [Value.slice.injEq, true_and] at e
        have HRC := Lib.hid hrc
        have HS := Lib.hid hS
        have HX := Lib.hid hx
        have hrl : (x.b.recs.length : Int) ≤ 20 := by omega
        clear hr hrc hS hx
        obtain ⟨wf, hwf⟩ : ∃ wf, wf = wr := ⟨_, rfl⟩
        have HWF := Lib.hid hwf
        clear hwf
        go_upto_region 7 with fail
        go_loopg [4] x.b.recs.length (fun gj v4 wt => ∃ j : Nat, j ≤ x.b.recs.length ∧ gj = x.b.recs.length - j ∧ v4 = .int .i64 j ∧ wt = wf)
        case atStart => exact ⟨0, Nat.zero_le _, rfl, rfl, HWF.out.symm⟩
        case round =>
          obtain ⟨j, hj, rfl, rfl, hwr2⟩ := hrel
          have e2 := hwr2.trans HWF.out
          subst e2
          clear hwr2
          by_cases hjt : j < x.b.recs.length
          · obtain ⟨rb, ro, era, -, r0, r1, r2, r3⟩ := HRC.out j hjt
            subst era
            have i1 : (j : Int) < (x.b.recs.length : Int) := by omega
            have i2 : (0 : Int) ≤ (j : Int) := by omega
            by_cases d1 : (200 : Int) < ((x.b.recs[j]).key.size : Int)
            · go_wp2
              go_ret
              exact ⟨⟨true, rfl, fun h => by cases h⟩, rfl⟩
            by_cases d2 : (200 : Int) < ((x.b.recs[j]).val.size : Int)
            · go_wp2
              go_ret
              exact ⟨⟨true, rfl, fun h => by cases h⟩, rfl⟩
            go_wp2
            go_roundg (x.b.recs.length - (j + 1))
            case measure => omega
            case rel => exact ⟨j + 1, by omega, rfl, by go_num, HWF.out.symm⟩
          · obtain rfl : j = x.b.recs.length := by omega
            have i1 : ¬ (x.b.recs.length : Int) < (x.b.recs.length : Int) := by omega
            go_wp2
            go_roundg (A.length - (k + 1))
            case measure => omega
            case rel =>
              refine ⟨k + 1, by omega, rfl, by go_num, rfl, fun i hi hi2 => ?_⟩
              by_cases e : i = k
              · subst e
                rw [HX.out]
                exact HS.out
              · exact HSM.out i hi (by omega)
      · have j3 : ¬ (k : Int) < 60 := by omega
        go_wp2
        go_ret
        exact ⟨⟨false, rfl, fun _ i hi hi2 => HSM.out i hi (by omega)⟩, rfl⟩
    · have j1 : ¬ (k : Int) < (A.length : Int) := by omega
      go_wp2
      go_ret
      exact ⟨⟨false, rfl, fun _ i hi hi2 => HSM.out i hi (by omega)⟩, rfl⟩
end Go.Proofs.YtcpaaleogmiamaaGreatDoor
namespace Go.Proofs.YtcpaaleogmiamaaGreatDoor
open Go.RowKit

theorem wpList_append_any {w : World} {ops : Array Oper} {rest : List Oper} {o : Oper} {a : Act} {Q : Exit → Act → World → Prop} (hgd : o.guard = none) (s x : Operand) (t : TypeId)
    (ho : o.op = .call { callee := .builtin .append, args := #[s, x], argTypes := #[t, t] })
    (base : Nat) (e : TypeId) (i : TypeInfo) (z : Value) (size bytes : Nat) (ht : Tryz.prog.underlying t = some (.slice e)) (hi : Tryz.prog.info? e = some i) (hz : i.zero = some z)
    (hsize : i.size = size) (hby : i.bytes = bytes) (hzs : z.cells.size = size) (hsz : 0 < size)
    (v : Value) (n : Nat) (xs : List Value) (hs : a.eval s = v) (hown : w.ownsRow base e size v n xs)
    (xv : Value) (m : Nat) (news : List Value) (hx : a.eval x = xv) (hrd : Rd w size xv m news) (h1 : ∀ u ∈ news, u.oneCell' = true)
    (h63 : n + m ≤ maxLen) (hbytes : (n + m) * bytes ≤ 140737488355328) (hbase : base ≤ w.heap.size)
    (h : ∀ a' c' w', w'.ownsRow base e size (.slice a' (n + m) c') (n + m) (xs ++ news) → w.grownBy w' v.ownBlock → ((Value.slice a' (n + m) c').ownBlock = v.ownBlock ∨ (Value.slice a' (n + m) c').ownBlock = some w.heap.size) → wpList Tryz.prog ops Q rest (a.put o.dst (.slice a' (n + m) c')) w') : wpList Tryz.prog ops Q (o :: rest) a w := by
  rcases hrd.2 with ⟨h0, rfl⟩ | ⟨ad, cap, h0, hle, hcap, hc⟩
  · have hn : news = [] := by
      have := hrd.1
      simpa using this
    subst hn
    obtain ⟨va, vc, hv, -⟩ := (Sl.of_owns hown).shape
    refine wpList_append_own_none hgd s x t ho base e i size ht hi v n xs hs hown (hx.trans h0) ?_
    have := h va vc w (by rw [List.append_nil, Nat.add_zero, ← hv]; exact hown) (World.grownBy.refl _ _) (.inl (by rw [Nat.add_zero, ← hv]))
    rw [Nat.add_zero, ← hv] at this
    exact this
  · refine wpList_plain hgd fun _ hK => ?_
    obtain ⟨v', w', hr, h2, h3, -, h5⟩ := run_append_own_at (P := Tryz.prog) (w := w) base t o.type e i z size bytes ht hi hz hsize hby hzs hsz v n xs hown ad m cap news hrd.1 hc h1 h63 hbytes hbase
    obtain ⟨va, vc, hv, -⟩ := (Sl.of_owns h2).shape
    have hx2 := hx.trans h0
    unfold Oper.wp execOp
    simp only [ho, resolve, invoke, builtin, Sem.run_bind, Sem.run_pure, Result.andThen_ok, List.map_toArray, List.map_cons, List.map_nil, hs, hx2, hr]
    rw [hv] at h2 h5 ⊢
    exact hK _ _ (h va vc w' h2 h3 h5)
theorem set6 {w : World} {b : Nat} {T : TypeId} {x0 x1 x2 x3 x4 x5 : Value} (h : w.heap[b]? = some (.cells #[x0, x1, x2, x3, x4, x5] T (0, 0))) (y0 y1 y2 y3 y4 y5 : Value) :
    ((((((w.setCell ⟨b, 0, none⟩ y0).setCell ⟨b, 1, none⟩ y1).setCell ⟨b, 2, none⟩ y2).setCell ⟨b, 3, none⟩ y3).setCell ⟨b, 4, none⟩ y4).setCell ⟨b, 5, none⟩ y5).heap[b]? = some (.cells #[y0, y1, y2, y3, y4, y5] T (0, 0)) ∧
    Upd (fun k => k = b) w ((((((w.setCell ⟨b, 0, none⟩ y0).setCell ⟨b, 1, none⟩ y1).setCell ⟨b, 2, none⟩ y2).setCell ⟨b, 3, none⟩ y3).setCell ⟨b, 4, none⟩ y4).setCell ⟨b, 5, none⟩ y5) :=
  ⟨setCell_same (o := 5) (v := y5) (setCell_same (o := 4) (v := y4) (setCell_same (o := 3) (v := y3) (setCell_same (o := 2) (v := y2) (setCell_same (o := 1) (v := y1) (setCell_same (o := 0) (v := y0) h))))),
    (((((upd_set1 w b 0 y0).trans (upd_set1 _ b 1 y1)).trans (upd_set1 _ b 2 y2)).trans (upd_set1 _ b 3 y3)).trans (upd_set1 _ b 4 y4)).trans (upd_set1 _ b 5 y5)⟩
end Go.Proofs.YtcpaaleogmiamaaGreatDoor
namespace Go.Proofs.YtcpaaleogmiamaaGreatDoor
open Go.RowKit

/-- An act's batch, at the end of a strand if told so. -/
def offN (b : Batch) (e : Int) (x : Rec) : Rec := { x with off := wrap64 (wrap64 (x.off - b.base) + e) }
def nextB (b : Batch) (e : Int) : Batch := { b with base := e, recs := b.recs.map (offN b e) }
def SAct.v (x : SAct) (rv lv fv : Value) (nx : Bool) : Value := .agg #[.int .i64 x.kind, .int .i64 x.b.base, .int .i64 x.b.count, .int .i64 x.b.prod, .int .i64 x.b.seq, .int .i64 x.b.time, rv, .bool nx, .int .i64 x.n, lv, fv, .string x.name]

/-- The records, the first i of them moved. -/
def mixN (b : Batch) (e : Int) (i : Nat) : List Rec := (b.recs.take i).map (offN b e) ++ b.recs.drop i
theorem mixN_len (b : Batch) (e : Int) (i : Nat) : (mixN b e i).length = b.recs.length := by simp [mixN]; omega
theorem mixN_set (b : Batch) (e : Int) (i : Nat) (hi : i < b.recs.length) : (mixN b e i).set i (offN b e b.recs[i]) = mixN b e (i + 1) := by
  unfold mixN
  rw [List.drop_eq_getElem_cons hi, List.set_append_right _ _ (by simp; omega), List.take_add_one, List.getElem?_eq_getElem hi]
  simp only [List.length_map, List.length_take, Nat.min_eq_left (Nat.le_of_lt hi), Nat.sub_self, List.set_cons_zero, Option.toList_some, List.map_append, List.map_cons, List.map_nil, List.append_assoc, List.cons_append, List.nil_append]
theorem mixN_get (b : Batch) (e : Int) (i : Nat) (hi : i < b.recs.length) : (mixN b e i)[i]? = some b.recs[i] := by
  unfold mixN
  rw [List.drop_eq_getElem_cons hi, List.getElem?_append_right (by simp; omega)]
  simp [Nat.min_eq_left (Nat.le_of_lt hi)]
/-- What stands in a round of next. -/
structure NxR (w : World) (n : Nat) (x : SAct) (e : Int) (rc0 : Value) (v : Value) (i : Nat) (W : World) : Prop where
  res : W.heap[n + 1]? = some (.cells #[.int .i64 0, .int .i64 0, .int .i64 0, .int .i64 0, .int .i64 0, .slice none 0 0] 40 (0, 0))
  bat : W.heap[n + 2]? = some (.cells #[.int .i64 x.b.base, .int .i64 x.b.count, .int .i64 x.b.prod, .int .i64 x.b.seq, .int .i64 x.b.time, rc0] 40 (0, 0))
  row : W.ownsRow n 84 4 v x.b.recs.length (recCells (mixN x.b e i))
  bel : Below n w W
theorem NxR.below {w W W' : World} {n : Nat} {x : SAct} {e : Int} {rc0 v : Value} {i : Nat} (h : NxR w n x e rc0 v i W) (hb : Below W.heap.size W W') (hn : n ≤ W.heap.size) : NxR w n x e rc0 v i W' :=
  ⟨heap_below hb h.res, heap_below hb h.bat, owns_upd h.row (Upd.of_below (F := fun _ => False) hb) (fun _ _ h => h), h.bel.trans (hb.mono hn)⟩
theorem NxR.step {w W : World} {n : Nat} {x : SAct} {e : Int} {rc0 : Value} {a : Option Addr} {c i : Nat} (h : NxR w n x e rc0 (.slice a x.b.recs.length c) i W) (hi : i < x.b.recs.length) (hn : n ≤ w.heap.size) :
    ∃ g, a = some ⟨g, 0, none⟩ ∧ W.cell? ⟨g, i * 4, none⟩ = some (.int .i64 (x.b.recs[i]).off) ∧ (∀ j, W.frozen? ⟨g, j, none⟩ = false) ∧ W.cell? ⟨n + 2, 0, none⟩ = some (.int .i64 x.b.base) ∧
      NxR w n x e rc0 (.slice a x.b.recs.length c) (i + 1) (W.setCell ⟨g, i * 4, none⟩ (.int .i64 (wrap64 (wrap64 ((x.b.recs[i]).off - x.b.base) + e)))) := by
  rcases h.row.2 with ⟨h2, h3⟩ | ⟨g, cap, cur, h1, h2, h3, h4, h5, h6, h7⟩
  · omega
  · simp only [Value.slice.injEq] at h1
    obtain ⟨rfl, -, rfl⟩ := h1
    have hset := upd_set1 W g (i * 4) (.int .i64 (wrap64 (wrap64 ((x.b.recs[i]).off - x.b.base) + e)))
    have hne1 : n + 1 ≠ g := fun e1 => by rw [← e1, h.res] at h3; simp at h3
    have hne2 : n + 2 ≠ g := fun e1 => by rw [← e1, h.bat] at h3; simp at h3
    have hl : i < (mixN x.b e i).length := by rw [mixN_len]; exact hi
    have hg : (mixN x.b e i)[i] = x.b.recs[i] := by
      have := mixN_get x.b e i hi
      rw [List.getElem?_eq_getElem hl] at this
      exact Option.some.inj this
    have hc : (recCells (mixN x.b e i))[i * 4]? = some (.int .i64 (x.b.recs[i]).off) := by
      have := (recCells_get (mixN x.b e i) i hl).1
      rw [hg] at this
      exact this
    refine ⟨g, rfl, ?_, fun _ => frozen_of h3, cells_of h.bat 0 _ rfl, (hset.block _ (Array.getElem?_eq_some_iff.1 h.res).1 hne1).trans h.res, (hset.block _ (Array.getElem?_eq_some_iff.1 h.bat).1 hne2).trans h.bat, ?_, h.bel.trans (hset.toBelow (Nat.le_trans hn h.bel.size) (fun k hk => by omega))⟩
    · rw [cell_of_row W g (i * 4) _ _ _ h3]
      rw [← h7, List.getElem?_take] at hc
      split at hc
      · rw [← Array.getElem?_toList]; exact hc
      · cases hc
    · have h8 := (h.row.stored (i * 4) (.int .i64 (wrap64 (wrap64 ((x.b.recs[i]).off - x.b.base) + e)))).1
      have e2 : (recCells (mixN x.b e i)).set (i * 4) (.int .i64 (wrap64 (wrap64 ((x.b.recs[i]).off - x.b.base) + e))) = recCells (mixN x.b e (i + 1)) := by
        rw [← mixN_set x.b e i hi]
        have := fl_set (f := Rec.cells) (sz := 4) (fun _ => rfl) (mixN x.b e i) i hl 0 (by decide) (.int .i64 (wrap64 (wrap64 ((x.b.recs[i]).off - x.b.base) + e))) (offN x.b e x.b.recs[i]) (by rw [hg]; rfl)
        rw [Nat.add_zero] at this
        exact this
      rw [e2] at h8
      exact h8

set_option maxRecDepth 100000 in
set_option maxHeartbeats 4000000 in
theorem L7next_any {w : World} {x : SAct} {ra la fa : Option Addr} {rc lc fc ln fn : Nat} (h : RcsRd w (.slice ra x.b.recs.length rc) x.b.recs) (hl : x.b.recs.length ≤ 20) (e : Int) :
    Calls Tryz.prog 31 #[x.v (.slice ra x.b.recs.length rc) (.slice la ln lc) (.slice fa fn fc) true, .int .i64 e] w fun en w' => ∃ v : Value, en = .returned ((nextB x.b e).v v) ∧ w'.ownsRow w.heap.size 84 4 v x.b.recs.length (recCells (nextB x.b e).recs) ∧ Below w.heap.size w w' := by
  simp only [SAct.v]
  go_enter Tryz.func31, Tryz.ntmps31
  go_upto_region 4 with fail
  obtain ⟨n, hn⟩ : ∃ n, w.heap.size = n := ⟨_, rfl⟩
  obtain ⟨W3, hW3⟩ : ∃ W3, W3 = ((w.alloc (.cells #[.int .i64 x.kind, .int .i64 x.b.base, .int .i64 x.b.count, .int .i64 x.b.prod, .int .i64 x.b.seq, .int .i64 x.b.time, .slice ra x.b.recs.length rc, .bool true, .int .i64 x.n, .slice la ln lc, .slice fa fn fc, .string x.name] 78)).alloc
    (.cells #[.int .i64 0, .int .i64 0, .int .i64 0, .int .i64 0, .int .i64 0, .slice none 0 0] 40)).alloc (.cells #[.int .i64 x.b.base, .int .i64 x.b.count, .int .i64 x.b.prod, .int .i64 x.b.seq, .int .i64 x.b.time, .slice ra x.b.recs.length rc] 40) := ⟨_, rfl⟩
  have hb3 : Below w.heap.size w W3 := by rw [hW3]; exact (((Below.refl _ w).alloc (Nat.le_refl _) _).alloc (by simp) _).alloc (by simp; omega) _
  have hz3 : W3.heap.size = n + 3 := by rw [hW3, ← hn]; simp
  have g1 : W3.heap[n + 1]? = some (.cells #[.int .i64 0, .int .i64 0, .int .i64 0, .int .i64 0, .int .i64 0, .slice none 0 0] 40 (0, 0)) := by rw [hW3]; exact al_old _ (al_at _ (by simp only [World.size_alloc]; omega))
  have g2 : W3.heap[n + 2]? = some (.cells #[.int .i64 x.b.base, .int .i64 x.b.count, .int .i64 x.b.prod, .int .i64 x.b.seq, .int .i64 x.b.time, .slice ra x.b.recs.length rc] 40 (0, 0)) := by rw [hW3]; exact al_at _ (by simp only [World.size_alloc]; omega)
  rw [← hW3]
  simp only [hn]
  rw [show n + 1 + 1 = n + 2 from rfl]
  have hrd := h.below hb3
  have h0 : (W3.alloc (.cells #[] 84)).ownsRow n 84 4 (.slice (some ⟨W3.heap.size, 0, none⟩) 0 0) 0 [] := World.ownsRow_made W3 #[] 0 (by omega) (Nat.zero_le _) rfl
  rw [hz3] at h0
  have c5 : ∀ o, (W3.alloc o).cell? ⟨n + 2, 5, none⟩ = some (.slice ra x.b.recs.length rc) := fun o => cells_of (al_old o g2) 5 _ rfl
  have H0 := Lib.hid (And.intro h0 (And.intro hrd (And.intro hb3 (And.intro hz3 (And.intro hn (And.intro g1 g2))))))
  clear h0 hrd hb3 hW3 h g1 g2
  obtain ⟨i0, hi, hz0, hz1, hz2⟩ := info_parts info_Rec4
  have hrd4 : ∀ o, Rd (W3.alloc o) 4 (.slice ra x.b.recs.length rc) x.b.recs.length (recCells x.b.recs) := fun o => Rd.below H0.out.2.1 (below_alloc W3 o)
  have HRD := Lib.hid hrd4
  clear hrd4
  go_upto_region 5 with (first | (at_builtin; refine wpList_append_any rfl _ _ 38 rfl n 84 i0 _ 4 48 und_Recs4 hi hz0 hz1 hz2 rfl (by decide) (.slice (some ⟨n + 3, 0, none⟩) 0 0) 0 [] rfl H0.out.1 (.slice ra x.b.recs.length rc) x.b.recs.length (recCells x.b.recs) rfl (HRD.out _) (one_recs _) (by unfold maxLen; omega) (by omega) (by simp only [World.size_alloc]; omega) ?_; intro a7 c7 w7 hown7 hgrow7 hat7; have H7 := Lib.hid (And.intro hown7 (And.intro hgrow7 hat7)); clear hown7 hgrow7 hat7))
  have hst : NxR w n x e (.slice ra x.b.recs.length rc) (.slice a7 x.b.recs.length c7) 0 w7 := by
    obtain ⟨k1, k2, k3⟩ := H7.out
    obtain ⟨m1, m2, m3, m4, m5, m6, m7⟩ := H0.out
    rw [Nat.zero_add, List.nil_append] at k1
    have hu : Upd (fun k => k = n + 3) W3 w7 := ((upd_alloc _ W3 _).trans (upd_grown k2)).mono (fun k _ e => by simpa [Value.ownBlock] using e)
    refine ⟨(hu.block _ (by omega) (by omega)).trans m6, (hu.block _ (by omega) (by omega)).trans m7, by simpa [mixN] using k1, ?_⟩
    exact (m3.mono (Nat.le_of_eq m5.symm)).trans (hu.toBelow (by omega) (fun k hk => by omega))
  have HST := Lib.hid hst
  have hln : n ≤ w.heap.size := Nat.le_of_eq hn.symm
  have hll : (x.b.recs.length : Int) ≤ 20 := by omega
  clear hst H7 H0 HRD hi hz0 hz1 hz2 c5 hz3
  go_wp2_with fail
  go_loopg [7] x.b.recs.length (fun gk v7 wr => ∃ i : Nat, i ≤ x.b.recs.length ∧ gk = x.b.recs.length - i ∧ v7 = .int .i64 i ∧ NxR w n x e (.slice ra x.b.recs.length rc) (.slice a7 x.b.recs.length c7) i wr)
  case atStart => exact ⟨0, Nat.zero_le _, rfl, rfl, HST.out⟩
  case round =>
    obtain ⟨i, hi, rfl, rfl, hs⟩ := hrel
    by_cases hit : i < x.b.recs.length
    · obtain ⟨g, ea, r0, z0, b0, hnx⟩ := (hs.below (Below.refl _ wr).drew (Nat.le_trans hln hs.bel.size)).step hit hln
      subst ea
      have HNX := Lib.hid hnx
      have z1 : wr.frozen? ⟨g, i * 4, none⟩ = false := z0 (i * 4)
      replace r0 : wr.cell? ⟨g, i * 4, none⟩ = some (.int .i64 (x.b.recs[i]).off) := r0
      replace b0 : wr.cell? ⟨n + 2, 0, none⟩ = some (.int .i64 x.b.base) := b0
      have j1 : (i : Int) < (x.b.recs.length : Int) := by omega
      have j2 : (0 : Int) ≤ (i : Int) := by omega
      have j3 : (0 : Int) ≤ (i : Int) + 1 := by omega
      clear hnx hs z0
      have e1 := IntWalk.i64_left ((x.b.recs[i]).off - x.b.base)
      have e2 := IntWalk.i64_left (wrap64 ((x.b.recs[i]).off - x.b.base) + e)
      go_upto_region 8 with fail
      go_region_law (fail)
      all_goals
        go_wp2_with fail
        go_roundg (x.b.recs.length - (i + 1))
        case measure => omega
        case rel =>
          try rw [e1, e2]
          exact ⟨i + 1, by omega, rfl, by go_num, HNX.out⟩
    · obtain rfl : i = x.b.recs.length := by omega
      have hm : mixN x.b e x.b.recs.length = (nextB x.b e).recs := by simp [mixN, nextB]
      obtain ⟨h1, h2, h3, h4⟩ := hs
      rw [hm] at h3
      have b0 : wr.cell? ⟨n + 2, 0, none⟩ = some (.int .i64 x.b.base) := cells_of h2 0 _ rfl
      have b1 : wr.cell? ⟨n + 2, 1, none⟩ = some (.int .i64 x.b.count) := cells_of h2 1 _ rfl
      have b2 : wr.cell? ⟨n + 2, 2, none⟩ = some (.int .i64 x.b.prod) := cells_of h2 2 _ rfl
      have b3 : wr.cell? ⟨n + 2, 3, none⟩ = some (.int .i64 x.b.seq) := cells_of h2 3 _ rfl
      have b4 : wr.cell? ⟨n + 2, 4, none⟩ = some (.int .i64 x.b.time) := cells_of h2 4 _ rfl
      have b5 : wr.cell? ⟨n + 2, 5, none⟩ = some (.slice ra x.b.recs.length rc) := cells_of h2 5 _ rfl
      have zb : ∀ j, wr.frozen? ⟨n + 2, j, none⟩ = false := fun _ => frozen_of h2
      have z0 := zb 0
      have z5 := zb 5
      clear zb
      go_upto_region 11 with fail
      obtain ⟨wa, hwa⟩ : ∃ wa, wa = (wr.setCell ⟨n + 2, 0, none⟩ (.int .i64 e)).setCell ⟨n + 2, 5, none⟩ (.slice a7 x.b.recs.length c7) := ⟨_, rfl⟩
      have hu : Upd (fun k => k = n + 2) wr wa := by rw [hwa]; exact (upd_set1 _ _ _ _).trans (upd_set1 _ _ _ _)
      have g2 : wa.heap[n + 2]? = some (.cells #[.int .i64 e, .int .i64 x.b.count, .int .i64 x.b.prod, .int .i64 x.b.seq, .int .i64 x.b.time, .slice a7 x.b.recs.length c7] 40 (0, 0)) := by rw [hwa]; exact setCell_same (o := 5) (v := .slice a7 x.b.recs.length c7) (setCell_same (o := 0) (v := .int .i64 e) h2)
      have g1 : wa.heap[n + 1]? = some (.cells #[.int .i64 0, .int .i64 0, .int .i64 0, .int .i64 0, .int .i64 0, .slice none 0 0] 40 (0, 0)) := (hu.block _ (Array.getElem?_eq_some_iff.1 h1).1 (by omega)).trans h1
      have hrw : ∀ q, (Value.slice a7 x.b.recs.length c7).ownBlock = some q → q ≠ n + 2 ∧ q ≠ n + 1 := fun q hq => by
        obtain ⟨cur, hc⟩ := owns_kind3 h3 q hq
        exact ⟨fun e => by rw [e, h2] at hc; simp at hc, fun e => by rw [e, h1] at hc; simp at hc⟩
      have g3 : wa.ownsRow n 84 4 (.slice a7 x.b.recs.length c7) x.b.recs.length (recCells (nextB x.b e).recs) := owns_upd h3 hu (fun q hq e => (hrw q hq).1 e)
      have g4 : Below n w wa := h4.trans (hu.toBelow (Nat.le_trans hln h4.size) (fun k hk => by omega))
      rw [← hwa]
      have b0 : wa.cell? ⟨n + 2, 0, none⟩ = some (.int .i64 e) := cells_of g2 0 _ rfl
      have b1 : wa.cell? ⟨n + 2, 1, none⟩ = some (.int .i64 x.b.count) := cells_of g2 1 _ rfl
      have b2 : wa.cell? ⟨n + 2, 2, none⟩ = some (.int .i64 x.b.prod) := cells_of g2 2 _ rfl
      have b3 : wa.cell? ⟨n + 2, 3, none⟩ = some (.int .i64 x.b.seq) := cells_of g2 3 _ rfl
      have b4 : wa.cell? ⟨n + 2, 4, none⟩ = some (.int .i64 x.b.time) := cells_of g2 4 _ rfl
      have b5 : wa.cell? ⟨n + 2, 5, none⟩ = some (.slice a7 x.b.recs.length c7) := cells_of g2 5 _ rfl
      have y0 : wa.cell? ⟨n + 1, 0, none⟩ = some (.int .i64 0) := cells_of g1 0 _ rfl
      have y1 : wa.cell? ⟨n + 1, 1, none⟩ = some (.int .i64 0) := cells_of g1 1 _ rfl
      have y2 : wa.cell? ⟨n + 1, 2, none⟩ = some (.int .i64 0) := cells_of g1 2 _ rfl
      have y3 : wa.cell? ⟨n + 1, 3, none⟩ = some (.int .i64 0) := cells_of g1 3 _ rfl
      have y4 : wa.cell? ⟨n + 1, 4, none⟩ = some (.int .i64 0) := cells_of g1 4 _ rfl
      have y5 : wa.cell? ⟨n + 1, 5, none⟩ = some (.slice none 0 0) := cells_of g1 5 _ rfl
      have zz : ∀ j, wa.frozen? ⟨n + 1, j, none⟩ = false := fun _ => frozen_of g1
      have zz0 := zz 0
      have zz1 := zz 1
      have zz2 := zz 2
      have zz3 := zz 3
      have zz4 := zz 4
      have zz5 := zz 5
      have hlen : (nextB x.b e).recs.length = x.b.recs.length := by simp [nextB]
      have HG := Lib.hid (And.intro g1 (And.intro g3 (And.intro g4 hrw)))
      clear g1 g2 g3 g4 hu hwa h1 h2 h3 h4 zz hrw hm
      go_wp2_with fail
      obtain ⟨q1, q3, q4, qr⟩ := HG.out
      obtain ⟨w1, w2⟩ := set6 q1 (.int .i64 e) (.int .i64 x.b.count) (.int .i64 x.b.prod) (.int .i64 x.b.seq) (.int .i64 x.b.time) (.slice a7 x.b.recs.length c7)
      have v0 := cells_of w1 0 _ rfl
      have v1 := cells_of w1 1 _ rfl
      have v2 := cells_of w1 2 _ rfl
      have v3 := cells_of w1 3 _ rfl
      have v4 := cells_of w1 4 _ rfl
      have v5 := cells_of w1 5 _ rfl
      refine bodyPost_ret (v := (nextB x.b e).v (.slice a7 x.b.recs.length c7)) ?_ rfl ⟨_, rfl, ?_, ?_⟩
      · simp only [Batch.v, nextB]
        simp [results, Tryz.results31, go_sem, v0, v1, v2, v3, v4, v5]
      · exact owns_mono (owns_upd q3 w2 (fun q hq e => (qr q hq).2 e)) (by omega)
      · exact (q4.mono (by omega)).trans (w2.toBelow (by have := q4.size; omega) (fun k hk => by omega))
end Go.Proofs.YtcpaaleogmiamaaGreatDoor
