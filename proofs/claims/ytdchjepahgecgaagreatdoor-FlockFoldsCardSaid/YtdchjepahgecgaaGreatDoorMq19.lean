/- The walk of flock.copied. -/
/- copy, at elements of whatever size. -/
import Derived.Test.YtdchjepahgecgaaGreatDoorMq18
import Derived.Test.YtdchjepahgecgaaGreatDoorMq7
import Derived.Shelf.Spec.SlicesInsertGrow
import Derived.Laws.CopyRow
namespace Go.Proofs.YtdchjepahgecgaaGreatDoor
open Go.RowKit

/-- A word of a group is written, what stands behind its words not being the call's own yet. -/
theorem OwnG.set0 {w : World} {N g n cap : Nat} {m : List Fv} {k : Nat} (h : OwnG w N (.slice (some ⟨g, 0, none⟩) n cap) m k) (hn : n = m.length) (j : Nat) (hj : j < m.length) (hjk : k ≤ j) (r : Nat) (hr : r < 5) (u : Value) (y : Fv) (he : fkEl y = (fkEl m[j]).set r u) :
    OwnG (w.setCell ⟨g, j * 5 + r, none⟩ u) N (.slice (some ⟨g, 0, none⟩) n cap) (m.set j y) k := by
  subst hn
  have hs := upd_set1 w g (j * 5 + r) u
  have hget : ∀ i (hi : i < (m.set j y).length), i < k → (m.set j y)[i] = m[i]'(by simpa using hi) := fun i hi hik => by rw [List.getElem_set_ne (by omega)]
  refine ⟨?_, ?_, ?_, ?_⟩
  · have := (h.own.stored (j * 5 + r) u).1
    unfold fkCells at this
    rw [fl_set fkEl_len m j hj r hr u y he] at this
    simpa [fkCells] using this
  · intro i hi hik
    rw [hget i hi hik]
    have hc' := h.mem i (by simpa using hi) hik
    exact owns_upd hc' hs (fun g' hg e => owns_types hc' h.own (by decide) g' hg (by rw [e]; rfl))
  · intro i hi hik
    rw [hget i hi hik]
    have hc' := h.pts i (by simpa using hi) hik
    exact owns_upd hc' hs (fun g' hg e => owns_types hc' h.own (by decide) g' hg (by rw [e]; rfl))
  · intro i i' hi hi' hik hik' hne g' hg
    rw [hget i hi hik] at hg
    rw [hget i' hi' hik']
    exact h.apart i i' _ _ hik hik' hne g' hg

structure SmallL (L : List Fk) : Prop where
  len : L.length ≤ 1000
  mem : ∀ x ∈ L, x.members.length ≤ 1000
  pts : ∀ x ∈ L, x.points.length ≤ 1000

theorem OwnG.word {w : World} {N g n cap : Nat} {m : List Fv} {k : Nat} (h : OwnG w N (.slice (some ⟨g, 0, none⟩) n cap) m k) (hn : n = m.length) (j : Nat) (hj : j < m.length) (r : Nat) (u : Value) (hu : (fkEl m[j])[r]? = some u) :
    w.cell? ⟨g, j * 5 + r, none⟩ = some u ∧ w.frozen? ⟨g, j * 5 + r, none⟩ = false := by
  subst hn
  have hr : r < 5 := by rw [← fkEl_len m[j]]; exact (List.getElem?_eq_some_iff.1 hu).1
  exact ⟨by rw [h.own.cellAt _ (by omega)]; exact fl_at fkEl_len m j hj r u hu, h.own.frozenAt _⟩

/-- What flock.copied answers. -/
def CopiedTo (w : World) (m0 : List Fv) (e : Ending) (w' : World) : Prop :=
  ∃ (v' : Value) (m : List Fv), e = .returned v' ∧ m.map (·.2.2) = m0.map (·.2.2) ∧ OwnF w' w.heap.size v' m ∧ Below w.heap.size w w'

set_option maxRecDepth 100000 in
set_option maxHeartbeats 2000000 in
theorem copied_any {w : World} {v : Value} {m0 : List Fv} (h : Rd w 5 v m0.length (fkCells m0)) (hf : ∀ x ∈ m0, FvRd w x) (hs : SmallL (m0.map (·.2.2))) : Calls Tryz.prog 22 #[v] w (CopiedTo w m0) := by
  have hone := oneFks hf
  have hlen : m0.length ≤ 1000 := by have := hs.len; simpa using this
  have hmm : ∀ x ∈ m0, x.2.2.members.length ≤ 1000 := fun x hx => hs.mem _ (List.mem_map.2 ⟨x, hx, rfl⟩)
  have hpm : ∀ x ∈ m0, x.2.2.points.length ≤ 1000 := fun x hx => hs.pts _ (List.mem_map.2 ⟨x, hx, rfl⟩)
  have HF := Lib.hid (And.intro hf (And.intro hmm hpm))
  have HC := Lib.hid (CloneFks_any h hone (by omega))
  obtain ⟨a, cap, rfl, -⟩ := Rd.shape h
  clear h hf hs hone hmm hpm
  go_enter Tryz.func22, Tryz.ntmps22
  go_wp2_with (first | (go_at_call 45; refine HC.out.mono ?_; rintro _ w1 ⟨v1, rfl, hown1, hb1⟩; obtain ⟨a1, cap1, rfl, -⟩ := (Sl.of_owns hown1).shape))
  have hown0 : OwnG w1 w.heap.size (.slice a1 m0.length cap1) m0 0 := ⟨hown1, fun i _ hi => absurd hi (Nat.not_lt_zero i), fun i _ hi => absurd hi (Nat.not_lt_zero i), fun i _ _ _ hi => absurd hi (Nat.not_lt_zero i)⟩
  have H0 := Lib.hid (And.intro hown0 hb1)
  clear hown0 hown1 hb1 HC
  go_loopg [4, 9] m0.length (fun gk _ i wx => ∃ (k : Nat) (m : List Fv), k ≤ m0.length ∧ gk = m0.length - k ∧ i = .int .i64 k ∧ m.map (·.2.2) = m0.map (·.2.2) ∧ (∀ i (h1 : i < m.length) (h2 : i < m0.length), k ≤ i → m[i] = m0[i]) ∧
      OwnG wx w.heap.size (.slice a1 m0.length cap1) m k ∧ Below w.heap.size w wx)
  case atStart => exact ⟨0, m0, Nat.zero_le _, rfl, rfl, rfl, fun _ _ _ _ => rfl, H0.out.1, H0.out.2⟩
  case round =>
    clear H0
    obtain ⟨k, m, hk, rfl, rfl, hmp, hrest, hown, hbel⟩ := hrel
    have hml : m.length = m0.length := by have := congrArg List.length hmp; simpa using this
    by_cases hlt : k < m0.length
    · have hkm : k < m.length := by omega
      have ek := hrest k hkm hlt (Nat.le_refl _)
      obtain ⟨hfk1, hfk2⟩ := HF.out.1 _ (List.getElem_mem hlt)
      have hmk := HF.out.2.1 _ (List.getElem_mem hlt)
      have hpk := HF.out.2.2 _ (List.getElem_mem hlt)
      rw [← ek] at hfk1 hfk2 hmk hpk
      clear ek
      obtain ⟨g, rfl⟩ : ∃ g, a1 = some ⟨g, 0, none⟩ := by
        rcases hown.own.2 with ⟨h1, h2⟩ | ⟨g, cap, cur, h1, -⟩
        · omega
        · simp only [Value.slice.injEq] at h1; exact ⟨g, h1.1⟩
      obtain ⟨ma, mc, e1, -⟩ := hfk1.cells
      obtain ⟨pa, pc, e2, -⟩ := hfk2.cells
      have hglo := owns_lt hown.own g rfl
      have hbz := hbel.size
      have hS := (hfk1.below hbel)
      rw [e1] at hS
      have hcl := CloneStrs_any hS (oneStrs _) (by omega)
      -- the world behind the first clone
      have hk1 : ∀ W, Below wr.heap.size wr W → W.cell? ⟨g, k * 5 + 3, none⟩ = some (.slice ma m[k].2.2.members.length mc) ∧ W.frozen? ⟨g, k * 5 + 3, none⟩ = false ∧ W.cell? ⟨g, k * 5 + 4, none⟩ = some (.slice pa m[k].2.2.points.length pc) := by
        intro W hb
        have hW := hown.below hb
        have h3 := hW.word hml.symm k hkm 3 m[k].1 rfl
        have h4 := hW.word hml.symm k hkm 4 m[k].2.1 rfl
        rw [e1] at h3
        rw [e2] at h4
        exact ⟨h3.1, h3.2, h4.1⟩
      have hk2 : ∀ (W : World) (v5 : Value), Below wr.heap.size wr W → W.ownsRow wr.heap.size 9 1 v5 m[k].2.2.members.length (strCells m[k].2.2.members) →
          OwnG (W.setCell ⟨g, k * 5 + 3, none⟩ v5) w.heap.size (.slice (some ⟨g, 0, none⟩) m0.length cap1) (m.set k (v5, m[k].2.1, m[k].2.2)) k ∧ Below w.heap.size w (W.setCell ⟨g, k * 5 + 3, none⟩ v5) ∧
          (W.setCell ⟨g, k * 5 + 3, none⟩ v5).ownsRow wr.heap.size 9 1 v5 m[k].2.2.members.length (strCells m[k].2.2.members) := by
        intro W v5 hb ho
        have hu := upd_set1 W g (k * 5 + 3) v5
        refine ⟨(hown.below hb).set0 hml.symm k hkm (Nat.le_refl _) 3 (by omega) v5 _ rfl, (hbel.trans (hb.mono hbz)).trans (hu.toBelow (by have := hb.size; omega) (fun b e => by omega)), owns_upd ho hu (fun g' hg e => by have := (owns_lt ho g' hg).1; omega)⟩
      have hP : ∀ W, Below w.heap.size w W → PtsRd W (.slice pa m[k].2.2.points.length pc) m[k].2.2.points := fun W hb => by rw [← e2]; exact hfk2.below hb
      obtain ⟨c3, f3, c4⟩ := hk1 wr (Below.refl _ _)
      have HK1 := Lib.hid hk1
      have HK2 := Lib.hid hk2
      have HP := Lib.hid hP
      have HCL := Lib.hid hcl
      have HX := Lib.hid (And.intro hmp (And.intro hrest hown))
      have i1 : (k : Int) < (m0.length : Int) := by omega
      have i2 : (0 : Int) ≤ (k : Int) := by omega
      have hp1 : m[k].2.2.points.length ≤ 1000000 := by omega
      clear hmp hrest hown hk1 hk2 hP hcl hS hfk1 hfk2
      go_wp2_with (first
        | (go_at_call 37; refine HCL.out.mono ?_; rintro _ w5 ⟨v5, rfl, hown5, hb5⟩; obtain ⟨v5a, v5c, rfl, -⟩ := (Sl.of_owns hown5).shape; obtain ⟨c53, f53, c54⟩ := HK1.out w5 hb5; obtain ⟨hG, hB, hO⟩ := HK2.out w5 (.slice v5a m[k].2.2.members.length v5c) hb5 hown5; have HG := Lib.hid (And.intro hG (And.intro hB hO)); have hW5 : (w5.setCell ⟨g, k * 5 + 3, none⟩ (.slice v5a m[k].2.2.members.length v5c)).heap.size = w5.heap.size := (by simp [World.setCell]); clear hG hB hO hown5)
        | (go_at_call 46; refine (ClonePts_any (HP.out _ HG.out.2.1) (onePts _) hp1).mono ?_; rintro _ w6 ⟨v6, rfl, hown6, hb6⟩; obtain ⟨v6a, v6c, rfl, -⟩ := (Sl.of_owns hown6).shape; have hG6 := HG.out.1.below hb6; have hw4 := hG6.word (by simp [hml]) k (by simpa using hkm) 4 m[k].2.1 (by simp [fkEl]); rw [e2] at hw4; obtain ⟨c64, f64⟩ := hw4; have HG6 := Lib.hid (And.intro hG6 (And.intro hown6 hb6)); clear hG6 hown6 hb6))
      go_roundg (m0.length - (k + 1))
      case measure => omega
      case rel =>
        obtain ⟨hG, hB, hO⟩ := HG.out
        obtain ⟨hG6, hown6, hb6⟩ := HG6.out
        have hu6 := upd_set1 w6 g (k * 5 + 4) (.slice v6a m[k].2.2.points.length v6c)
        have hkl : k < (m.set k ((.slice v5a m[k].2.2.members.length v5c), m[k].2.1, m[k].2.2)).length := by simpa using hkm
        have hset := hG6.set (k' := k + 1) (by simp [hml]) k hkl 4 (by omega) (.slice v6a m[k].2.2.points.length v6c) ((.slice v5a m[k].2.2.members.length v5c), (.slice v6a m[k].2.2.points.length v6c), m[k].2.2) (by simp [fkEl]) (fun i hi => by omega)
          (owns_mono (owns_upd hO (Upd.of_below (F := fun _ => False) hb6) (fun _ _ h => h)) hbz) (owns_mono hown6 (by rw [hW5]; have := hb5.size; omega))
          (fun i hi hik hne g' hg' e => by
            have h1 := (owns_lt (hG.pts i hi hik) g' hg').2
            have h2 := (owns_lt hown6 g' e).1
            omega)
        rw [List.set_set] at hset
        refine ⟨k + 1, m.set k ((.slice v5a m[k].2.2.members.length v5c), (.slice v6a m[k].2.2.points.length v6c), m[k].2.2), by omega, rfl, by go_num, ?_, ?_, hset, (hB.trans (hb6.mono hB.size)).trans (hu6.toBelow (by have := hB.size; have := hb6.size; omega) (fun b e => by omega))⟩
        · rw [List.map_set, ← HX.out.1]
          refine List.ext_getElem (by simp) (fun i h1 h2 => ?_)
          rw [List.getElem_set]
          split
          · rename_i e; subst e; simp
          · rfl
        · intro i h1 h2 hki
          rw [List.getElem_set_ne (by omega)]
          exact HX.out.2.1 i (by simpa using h1) h2 (by omega)
    · have hkn : k = m0.length := by omega
      subst hkn
      have HZ := Lib.hid (And.intro hmp (And.intro hown hbel))
      clear hmp hrest hown hbel
      have i1 : ¬ (m0.length : Int) < (m0.length : Int) := by omega
      go_wp2
      go_ret
      obtain ⟨hmp, hown, hbel⟩ := HZ.out
      have hown2 : OwnF wr w.heap.size (.slice a1 m0.length cap1) m := by have := hown; rw [← hml] at this ⊢; exact this
      exact ⟨_, m, rfl, hmp, hown2, hbel⟩
end Go.Proofs.YtdchjepahgecgaaGreatDoor
namespace Go.Proofs.YtdchjepahgecgaaGreatDoor
open Go.RowKit

/-- copy, at elements of whatever size, into a row that is known whole. -/
theorem run_copy_sz {P : Program} (w : World) (dT sT ty elem : TypeId) (sz g o dLen dCap : Nat) (a : Addr) (sLen sCap n : Nat) (cur : Array Value) (t : TypeId) (cs : List Value)
    (hu : P.underlying dT = some (.slice elem)) (hs : (P.info? elem).map (·.size) = some sz)
    (hg : w.heap[g]? = some (.cells cur t (0, 0))) (hn : Nat.min sLen dLen = n) (hl : cs.length = n * sz)
    (hsrc : ∀ j v, cs[j]? = some v → w.cell? (a.add j) = some v) (hfit : o + cs.length ≤ cur.size) (h1 : ∀ v ∈ cs, v.oneCell' = true) :
    (Builtin.copy_ #[dT, sT] ty #[.slice (some ⟨g, o, none⟩) dLen dCap, .slice (some a) sLen sCap]).run P w =
      .ok (goInt n) (w.setRow g (cur.toList.take o ++ cs ++ cur.toList.drop (o + cs.length)).toArray) := by
  have hl' := run_loadCells_list (P := P) w a cs hsrc
  have hst := run_storeCells_at P g o t cs 0 cur w hg (by simpa using hfit) h1
  rw [hl] at hl'
  cases hq : P.info? elem with
  | none => simp [hq] at hs
  | some i =>
    have hi : i.size = sz := by simpa [hq] using hs
    simp [Builtin.copy_, run_underlying hu, Builtin.lenOf, Builtin.firstCells, sizeOf, typeInfo, hq, hi, hn, hl', hst]

end Go.Proofs.YtdchjepahgecgaaGreatDoor
