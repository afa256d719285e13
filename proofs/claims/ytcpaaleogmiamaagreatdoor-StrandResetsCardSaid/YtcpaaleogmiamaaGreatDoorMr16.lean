/- The walks of strand's small functions: last, end, End, Start, fresh, did, ready. -/
import Derived.Test.YtcpaaleogmiamaaGreatDoorMr15
import Derived.BigQuiet
import Derived.Deep.RegionHeld3
import Derived.Deep.DeepCutAuto
namespace Go.Proofs.YtcpaaleogmiamaaGreatDoor
open Go.RowKit

theorem endL_last : ∀ (l : List Batch) (n : Int) (k : Nat) (hk : l.length = k + 1), endL n l = (l[k]'(by omega)).base + (l[k]'(by omega)).count
  | [b], n, 0, _ => rfl
  | [], _, _, hk => by simp at hk
  | [b], n, k + 1, hk => by simp at hk
  | b :: c :: l, n, 0, hk => by simp at hk
  | b :: c :: l, n, k + 1, hk => by
    rw [endL]
    exact endL_last (c :: l) _ k (by simpa using hk)
theorem Chained.end {l : List Batch} {n : Int} (h : Chained n l) (hn : 0 ≤ n ∧ n ≤ 1099511627776) : 0 ≤ endL n l ∧ endL n l ≤ 1099511627776 := by
  cases hk : l.length with
  | zero =>
    rw [List.length_eq_zero_iff.1 hk]; exact hn
  | succ k =>
    rw [endL_last l n k hk]
    have := (goodB_iff _).1 (h.good l[k] (List.getElem_mem _))
    have a := this.base
    have b := this.count
    have c := this.fin
    omega
def endS (s : List Sg) : Int := match s.getLast? with
  | none => 0
  | some g => endL g.base g.list
def startS (s : List Sg) : Int := match s with
  | [] => 0
  | g :: _ => g.base
theorem startS_zero : ∀ (s : List Sg) (h : 0 < s.length), startS s = s[0].base
  | _ :: _, _ => rfl
theorem endS_last (s : List Sg) (k : Nat) (hk : s.length = k + 1) : endS s = endL (s[k]'(by omega)).base (s[k]'(by omega)).list := by
  have e : s.getLast? = some (s[k]'(by omega)) := by
    rw [List.getLast?_eq_getElem?, ← List.getElem?_eq_getElem (by omega)]
    congr 1
    omega
  unfold endS
  rw [e]

set_option maxRecDepth 100000 in
theorem Stlast_none {w : World} {S : Nat → Prop} {sb tb : Nat} {x : St} {gv : Value} {m : List (Value × Sg)} {D : Nat → Prop} (h : StIn w S sb tb x gv m D) (h0 : x.segs.length = 0) :
    Calls Tryz.prog 84 #[.pointer (some ⟨sb, 0, none⟩)] w fun e w' => e = .returned (.pointer none) ∧ w' = w := by
  obtain ⟨c0, c1, c2, c3, c4, c5, cf⟩ := h.cells
  obtain ⟨a, cap, rfl, -⟩ := h.seg
  rw [h0] at c3
  clear h
  go_enter Tryz.func84, Tryz.ntmps84
  go_wp2
  go_ret
  exact ⟨rfl, rfl⟩
theorem Stlast_nil (w : World) : Calls Tryz.prog 84 #[.pointer none] w fun e w' => e = .returned (.pointer none) ∧ w' = w := by
  go_enter Tryz.func84, Tryz.ntmps84
  go_wp2
  go_ret
  exact ⟨rfl, rfl⟩
set_option maxRecDepth 100000 in
theorem Stlast_some {w : World} {S : Nat → Prop} {sb tb : Nat} {x : St} {gv : Value} {m : List (Value × Sg)} {D : Nat → Prop} (h : StIn w S sb tb x gv m D) {n : Nat} (hn : x.segs.length = n + 1) :
    Calls Tryz.prog 84 #[.pointer (some ⟨sb, 0, none⟩)] w fun e w' => ∃ b, gv.ownBlock = some b ∧ e = .returned (.pointer (some ⟨b, n * 3, none⟩)) ∧ Below w.heap.size w w' := by
  obtain ⟨c0, c1, c2, c3, c4, c5, cf⟩ := h.cells
  obtain ⟨a, cap, rfl, hml, hs⟩ := h.seg
  obtain ⟨b, -, -, rfl, hb, -, hgb, -⟩ := hs n (by omega)
  rw [hn] at c3
  obtain ⟨k, hk⟩ : ∃ k, n + 1 = k := ⟨_, rfl⟩
  rw [hk] at c3
  have hkl : k ≤ 9223372036854775807 := by unfold maxLen at hml; omega
  have k0 : (k : Int) ≠ 0 := by omega
  have k1 : ((k : Int) == 0) = false := by simpa using k0
  have k2 : wrap64 ((k : Int) - 1) = (n : Int) := by rw [IntWalk.wrap64_in _ (by omega)]; omega
  have k3 : (0 : Int) ≤ (n : Int) := by omega
  have k4 : (n : Int) < (k : Int) := by omega
  have k5 : k - 1 = n := by omega
  have K5 := Lib.hid k5
  clear hs hml h hn hk k5
  go_enter Tryz.func84, Tryz.ntmps84
  go_wp2
  go_quiet (fail)
  go_wp2
  go_ret
  exact ⟨b, hgb, by simp [K5.out], below_drewN (Below.refl _ _) _⟩

theorem sgend_any {w : World} {lv : Value} {l : List Batch} (h : BsRd w lv l) (base : Int) (y : Int) (hc : Chained base l) :
    Calls Tryz.prog 85 #[.agg #[.int .i64 base, lv, .int .i64 y]] w fun e w' => e = .returned (.int .i64 (endL base l)) ∧ Below w.heap.size w w' := by
  obtain ⟨a, cap, rfl, -, hml, hs⟩ := h.cells
  cases hk : l.length with
  | zero =>
    have : l = [] := List.length_eq_zero_iff.1 hk
    subst this
    clear hs hml hk
    go_enter Tryz.func85, Tryz.ntmps85
    go_wp2
    go_ret
    exact ⟨rfl, below_alloc _ _⟩
  | succ n =>
    have hel := endL_last l base n hk
    obtain ⟨b, off, ra, rc, rfl, hb, x0, x1, x2, x3, x4, x5, -⟩ := hs n (by omega)
    have hg := (goodB_iff _).1 (hc.good l[n] (List.getElem_mem _))
    have g1 := hg.base
    have g2 := hg.count
    have g3 := hg.fin
    generalize l[n] = bt at hel x0 x1 x2 x3 x4 x5 hg g1 g2 g3
    obtain ⟨lb, lc, lp, ls, lt, lr⟩ := bt
    simp only at hel x0 x1 x2 x3 x4 x5 g1 g2 g3
    rw [hel]
    obtain ⟨k, hkk⟩ : ∃ k, n + 1 = k := ⟨_, rfl⟩
    rw [hkk]
    have hkl : k ≤ 9223372036854775807 := by unfold maxLen at hml; omega
    have k0 : (k : Int) ≠ 0 := by omega
    have k1 : ((k : Int) == 0) = false := by simpa using k0
    have k2 : wrap64 ((k : Int) - 1) = (n : Int) := by rw [IntWalk.wrap64_in _ (by omega)]; omega
    have k3 : (0 : Int) ≤ (n : Int) := by omega
    have k4 : (n : Int) < (k : Int) := by omega
    have k5 : wrap64 (lb + lc) = lb + lc := IntWalk.wrap64_in _ (by omega)
    have bl : ∀ {o : Nat} {u : Value}, w.cell? ⟨b, o, none⟩ = some u → ∀ O : Obj, (w.alloc O).cell? ⟨b, o, none⟩ = some u := fun hu O => below_some (below_alloc w O) hu hb
    clear hs hml hk hel hg g1 g2 g3 hc hkk hkl
    go_enter Tryz.func85, Tryz.ntmps85
    go_wp2
    go_ret
    exact ⟨ret_i k5, below_alloc2 _ _ _⟩

/-- Where a strand ends. -/
theorem StEnd_any {w : World} {S : Nat → Prop} {sb tb : Nat} {x : St} (h : StAt w S sb tb x) (hk : StOk x) : Calls Tryz.prog 32 #[.pointer (some ⟨sb, 0, none⟩)] w fun e w' => e = .returned (.int .i64 (endS x.segs)) ∧ Below w.heap.size w w' := by
  obtain ⟨gv, m, D, h⟩ := h
  cases hn : x.segs.length with
  | zero =>
    have e : endS x.segs = 0 := by rw [List.length_eq_zero_iff.1 hn]; rfl
    have HL := Lib.hid (Stlast_none h hn)
    rw [e]
    clear h e hn
    go_enter Tryz.func32, Tryz.ntmps32
    go_wp2_with (first | (go_at_call 84; refine HL.out.mono ?_; rintro _ w1 ⟨rfl, rfl⟩))
    go_ret
    exact ⟨rfl, Below.refl _ _⟩
  | succ n =>
    rw [endS_last _ n hn]
    obtain ⟨a, cap, hgv, hml, hs⟩ := h.seg
    obtain ⟨b, la, lc, ha, hb, -, hgb, x0, x1, x2, hi, -⟩ := hs n (by omega)
    have hg := hk.segs x.segs[n] (List.getElem_mem _)
    have hl := Stlast_some h hn
    have he := fun W (hW : Below w.heap.size w W) => sgend_any (hi.here.below hW) x.segs[n].base ((sgB x.segs[n].list).length : Int) hg.2.2
    obtain ⟨g, hgg⟩ : ∃ g, x.segs[n] = g := ⟨_, rfl⟩
    rw [hgg] at x0 x1 x2 he ⊢
    have HL := Lib.hid hl
    have HE := Lib.hid he
    have HX := Lib.hid (And.intro x0 (And.intro x1 x2))
    have HB := Lib.hid hgb
    clear hs hml hl he x0 x1 x2 hi hgg hg hgv ha hk h hn hgb
    go_enter Tryz.func32, Tryz.ntmps32
    go_wp2_with fail
    refine HL.out.mono ?_
    rintro _ w1 ⟨b', hb', rfl, hb1⟩
    obtain rfl : b = b' := by rw [HB.out] at hb'; exact Option.some.inj hb'
    have x0 := below_some hb1 HX.out.1 hb
    have x1 := below_some hb1 HX.out.2.1 hb
    have x2 := below_some hb1 HX.out.2.2 hb
    have HB1 := Lib.hid hb1
    clear hb' hb1
    go_wp2_with (first | (go_at_call 85; refine (HE.out _ HB1.out).mono ?_; rintro _ w2 ⟨rfl, hb2⟩))
    go_ret
    exact ⟨rfl, below_trans HB1.out hb2⟩
theorem StEnd_nil (w : World) : Calls Tryz.prog 32 #[.pointer none] w fun e w' => e = .returned (.int .i64 0) ∧ w' = w := by
  have HL := Lib.hid (Stlast_nil w)
  go_enter Tryz.func32, Tryz.ntmps32
  go_wp2_with (first | (go_at_call 84; refine HL.out.mono ?_; rintro _ w1 ⟨rfl, rfl⟩))
  go_ret
  exact ⟨rfl, rfl⟩

theorem StStart_any {w : World} {S : Nat → Prop} {sb tb : Nat} {x : St} (h : StAt w S sb tb x) : Calls Tryz.prog 54 #[.pointer (some ⟨sb, 0, none⟩)] w fun e w' => e = .returned (.int .i64 (startS x.segs)) ∧ w' = w := by
  obtain ⟨gv, m, D, h⟩ := h
  obtain ⟨c0, c1, c2, c3, c4, c5, cf⟩ := h.cells
  obtain ⟨a, cap, rfl, hml, hs⟩ := h.seg
  cases hn : x.segs.length with
  | zero =>
    have e : startS x.segs = 0 := by rw [List.length_eq_zero_iff.1 hn]; rfl
    rw [e]
    rw [hn] at c3
    clear h e hn hs hml cf
    go_enter Tryz.func54, Tryz.ntmps54
    go_wp2
    go_ret
    exact ⟨rfl, rfl⟩
  | succ n =>
    obtain ⟨b, la, lc, rfl, hb, -, hgb, x0, x1, x2, hi, -⟩ := hs 0 (by omega)
    have e : startS x.segs = (x.segs[0]'(by omega)).base := startS_zero _ (by omega)
    rw [e]
    obtain ⟨g, hgg⟩ : ∃ g, (x.segs[0]'(by omega)).base = g := ⟨_, rfl⟩
    simp only [Nat.zero_mul, hgg] at x0 ⊢
    rw [hn] at c3
    obtain ⟨k, hk⟩ : ∃ k, n + 1 = k := ⟨_, rfl⟩
    rw [hk] at c3
    have k0 : (k : Int) ≠ 0 := by omega
    have k1 : ((k : Int) == 0) = false := by simpa using k0
    have k4 : (0 : Int) < (k : Int) := by omega
    clear h e hs hml cf x1 x2 hi hgb hgg hn hk
    go_enter Tryz.func54, Tryz.ntmps54
    go_wp2
    go_ret
    exact ⟨rfl, rfl⟩

theorem Stfresh_any {w : World} {S : Nat → Prop} {sb tb : Nat} {x : St} (h : StAt w S sb tb x) (hk : StOk x) : Calls Tryz.prog 96 #[.pointer (some ⟨sb, 0, none⟩)] w fun e w' => e = .returned (.string (bs (x.pre ++ 46 :: [110, 101, 119]))) ∧ w' = w := by
  obtain ⟨gv, m, D, h⟩ := h
  obtain ⟨c0, c1, c2, c3, c4, c5, cf⟩ := h.cells
  have hsz : (bs x.pre).size = x.pre.length := bs_size _
  have := hk.pre
  have k1 : ¬ 9223372036854775807 < (bs x.pre).size + 4 := by omega
  clear h
  go_enter Tryz.func96, Tryz.ntmps96
  go_wp2
  go_ret
  refine ⟨?_, rfl⟩
  rw [show (⟨#[46, 110, 101, 119]⟩ : ByteArray) = bs [46, 110, 101, 119] from rfl, bs_append]
  rfl

/-- The dead flag is written. -/
theorem StIn.dead {w : World} {S : Nat → Prop} {sb tb : Nat} {x : St} {gv : Value} {m : List (Value × Sg)} {D : Nat → Prop} (h : StIn w S sb tb x gv m D) (d : Bool) : StIn (w.setCell ⟨sb, 5, none⟩ (.bool d)) S sb tb { x with dead := d } gv m D := by
  have hu := upd_set1 w sb 5 (.bool d)
  refine ⟨setCell_same (o := 5) (v := .bool d) h.blk, h.segs, owns_upd h.row hu (fun g hg e => h.ne (by rw [hg, e])), fun y hy => (h.lists y hy).upd hu (fun k hk _ e => (h.apart k hk).2.1 e), h.apart, h.own, h.ownG, fun k hk => by simpa using h.lt k hk⟩
theorem Stdid_in {w : World} {S : Nat → Prop} {sb tb : Nat} {x : St} {gv : Value} {m : List (Value × Sg)} {D : Nat → Prop} (h : StIn w S sb tb x gv m D) (e0 : Int) : Calls Tryz.prog 90 #[.pointer (some ⟨sb, 0, none⟩), .int .i64 e0] w fun e w' => e = .returned (.int .i64 e0) ∧ StIn w' S sb tb { x with dead := x.dead || decide (e0 = 10) } gv m D ∧ Upd (fun k => k = sb) w w' := by
  obtain ⟨c0, c1, c2, c3, c4, c5, cf⟩ := h.cells
  have f5 := cf 5
  obtain ⟨d, hd⟩ : ∃ d, (x.dead || decide (e0 = 10)) = d := ⟨_, rfl⟩
  have hst : ∀ d, StIn (w.setCell ⟨sb, 5, none⟩ (.bool d)) S sb tb { x with dead := d } gv m D ∧ Upd (fun k => k = sb) w (w.setCell ⟨sb, 5, none⟩ (.bool d)) := fun d => ⟨h.dead d, upd_set1 _ _ _ _⟩
  have HS := Lib.hid hst
  have HD := Lib.hid hd
  rw [hd]
  obtain ⟨xd, hxd⟩ : ∃ xd, x.dead = xd := ⟨_, rfl⟩
  rw [hxd] at HD c5
  clear h hst cf hxd hd
  cases xd with
  | true =>
    have HD2 := Lib.hid (show d = true by have := HD.out; simpa using this.symm)
    clear HD
    go_enter Tryz.func90, Tryz.ntmps90
    go_wp2
    go_ret
    rw [HD2.out]
    exact ⟨rfl, HS.out true⟩
  | false =>
    by_cases he : e0 = 10
    · have HD2 := Lib.hid (show d = true by have := HD.out; simpa [he] using this.symm)
      subst he
      clear HD
      go_enter Tryz.func90, Tryz.ntmps90
      go_wp2
      go_ret
      rw [HD2.out]
      exact ⟨rfl, HS.out true⟩
    · have HD2 := Lib.hid (show d = false by have := HD.out; simpa [he] using this.symm)
      have hne : (e0 == 10) = false := by simpa using he
      clear HD he
      go_enter Tryz.func90, Tryz.ntmps90
      go_wp2
      go_ret
      rw [HD2.out]
      exact ⟨rfl, HS.out false⟩

theorem Stdid_any {w : World} {S : Nat → Prop} {sb tb : Nat} {x : St} (h : StAt w S sb tb x) (e0 : Int) : Calls Tryz.prog 90 #[.pointer (some ⟨sb, 0, none⟩), .int .i64 e0] w fun e w' => e = .returned (.int .i64 e0) ∧ StAt w' S sb tb { x with dead := x.dead || decide (e0 = 10) } ∧ Upd (fun k => k = sb) w w' := by
  obtain ⟨gv, m, D, h⟩ := h
  exact (Stdid_in h e0).mono (fun e w' h => ⟨h.1, ⟨gv, m, D, h.2.1⟩, h.2.2⟩)

def stReadyB (t : Tp) (x : St) : Bool := x.dead || (t.down || decide (t.life ≠ x.life))
set_option maxRecDepth 100000 in
theorem Stready_any {w : World} {S : Nat → Prop} {sb tb mb : Nat} {L : TpL} {t : Tp} {x : St} (h : StAt w S sb tb x) (ht : TpAt w tb mb L t) :
    Calls Tryz.prog 86 #[.pointer (some ⟨sb, 0, none⟩)] w fun e w' => e = .returned (.int .i64 (if stReadyB t x = true then 10 else 0)) ∧ Below w.heap.size w w' := by
  obtain ⟨gv, m, D, h⟩ := h
  obtain ⟨c0, c1, c2, c3, c4, c5, cf⟩ := h.cells
  have HD := Lib.hid (fun j => TDown_any (ht.below (below_drewN (Below.refl _ _) j)))
  have HL := Lib.hid (fun j => TLife_any (ht.below (below_drewN (Below.refl _ _) j)))
  clear h ht
  obtain ⟨tl, htl⟩ : ∃ tl, t.life = tl := ⟨_, rfl⟩
  obtain ⟨td, htd⟩ : ∃ td, t.down = td := ⟨_, rfl⟩
  obtain ⟨dead, hdd⟩ : ∃ d, x.dead = d := ⟨_, rfl⟩
  obtain ⟨life, hll⟩ : ∃ l, x.life = l := ⟨_, rfl⟩
  rw [htl] at HL
  rw [htd] at HD
  rw [hdd] at c5
  rw [hll] at c4
  have hr : (if stReadyB t x = true then (10 : Int) else 0) = if (dead || (td || decide (tl ≠ life))) = true then 10 else 0 := by rw [stReadyB, htl, htd, hdd, hll]
  obtain ⟨r, hr0⟩ : ∃ r, (if stReadyB t x = true then (10 : Int) else 0) = r := ⟨_, rfl⟩
  rw [hr0] at hr ⊢
  have HR := Lib.hid hr
  clear hr hr0 htl htd hdd hll cf
  cases dead with
  | true =>
    go_enter Tryz.func86, Tryz.ntmps86
    go_wp2
    go_quiet (fail)
    go_wp2
    go_ret
    exact ⟨by rw [HR.out]; simp, below_drewN (Below.refl _ _) _⟩
  | false =>
    cases td with
    | true =>
      go_enter Tryz.func86, Tryz.ntmps86
      go_wp2
      go_quiet ((go_at_call 62; with_reducible exact Calls.quiet_of_same (HD.out _)))
      go_wp2
      go_ret
      exact ⟨by rw [HR.out]; simp, below_drewN (Below.refl _ _) _⟩
    | false =>
      by_cases e : tl = life
      · subst e
        go_enter Tryz.func86, Tryz.ntmps86
        go_wp2
        go_quiet (first | (go_at_call 62; with_reducible exact Calls.quiet_of_same (HD.out _)) | (go_at_call 63; with_reducible exact Calls.quiet_of_same (HL.out _)))
        go_wp2
        go_ret
        exact ⟨by rw [HR.out]; simp, below_drewN (Below.refl _ _) _⟩
      · have e2 : (tl == life) = false := by simpa using e
        go_enter Tryz.func86, Tryz.ntmps86
        go_wp2
        go_quiet (first | (go_at_call 62; with_reducible exact Calls.quiet_of_same (HD.out _)) | (go_at_call 63; with_reducible exact Calls.quiet_of_same (HL.out _)))
        go_wp2
        go_ret
        exact ⟨by rw [HR.out]; simp [e], below_drewN (Below.refl _ _) _⟩
theorem Stready_nil (w : World) : Calls Tryz.prog 86 #[.pointer none] w fun e w' => e = .returned (.int .i64 2) ∧ w' = w := by
  go_enter Tryz.func86, Tryz.ntmps86
  go_wp2
  go_ret
  exact ⟨rfl, rfl⟩
end Go.Proofs.YtcpaaleogmiamaaGreatDoor
