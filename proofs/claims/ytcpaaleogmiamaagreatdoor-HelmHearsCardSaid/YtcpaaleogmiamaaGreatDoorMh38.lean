/- The walk of helm.Tick. -/
import Derived.Test.YtcpaaleogmiamaaGreatDoorMh37
namespace Go.Proofs.YtcpaaleogmiamaaGreatDoor
open Go.RowKit

theorem und_mapII : Tryz.prog.underlying 120 = some (.map 3 3) := by kernel_rfl
theorem und_intK : Tryz.prog.underlying 3 = some (.int .i64) := by kernel_rfl
theorem zero_int : (Tryz.prog.info? 3).bind (·.zero) = some (.int .i64 0) := by kernel_rfl

theorem mget_miss (M : List (Int × Int)) (k : Int) : (mget (missM M) k).getD (.int .i64 0) = .int .i64 (missG M k) := by
  unfold mget missM missG
  induction M with
  | nil => rfl
  | cons x M ih =>
    by_cases e : x.1 = k
    · simp [e]
    · have e2 : (x.1 == k) = false := by simpa using e
      simpa [e2] using ih
theorem mput_miss (M : List (Int × Int)) (k v : Int) : mput (missM M) k (.int .i64 v) = missM (missP M k v) := by
  unfold missM
  induction M with
  | nil => rfl
  | cons x M ih =>
    by_cases e : x.1 = k
    · simp [mput, missP, e]
    · have e2 : (x.1 == k) = false := by simpa using e
      simp only [List.map_cons, mput, missP, e2, Bool.false_eq_true, if_false, ih]
theorem missG_P (M : List (Int × Int)) (k v n : Int) : missG (missP M k v) n = if n = k then v else missG M n := by
  induction M with
  | nil =>
    by_cases e : k = n
    · simp [missG, missP, e]
    · have e2 : (k == n) = false := by simpa using e
      rw [if_neg (fun h : n = k => e h.symm)]
      simp [missG, missP, e2]
  | cons x M ih =>
    by_cases e : x.1 = k
    · by_cases e1 : n = k
      · subst e1; simp [missG, missP, e]
      · have e3 : (k == n) = false := by simpa using fun h : k = n => e1 h.symm
        have e4 : (x.1 == n) = false := by rw [e]; exact e3
        simp [missG, missP, e, e1, e3]
    · have e2 : (x.1 == k) = false := by simpa using e
      by_cases e1 : x.1 = n
      · have e3 : ¬ n = k := fun h => e (e1.trans h)
        simp [missG, missP, e1, e3]
      · have e4 : (x.1 == n) = false := by simpa using e1
        simp only [missP, e2, Bool.false_eq_true, if_false]
        unfold missG at ih ⊢
        simp only [List.find?_cons, e4]
        exact ih

/-- Each node that has a life was missed once more. -/
def incM : List (Int × Int) → List (Int × Int) → List (Int × Int)
  | [], M => M
  | l :: r, M => incM r (missP M l.1 (missG M l.1 + 1))
theorem incM_snoc (l : Int × Int) : ∀ (r M : List (Int × Int)), incM (r ++ [l]) M = missP (incM r M) l.1 (missG (incM r M) l.1 + 1)
  | [], _ => rfl
  | x :: r, M => by simp only [List.cons_append, incM]; exact incM_snoc l r _
theorem incM_max {K : Int} : ∀ (ls M : List (Int × Int)), (∀ n, 0 ≤ missG M n ∧ missG M n ≤ K) → ∀ n, 0 ≤ missG (incM ls M) n ∧ missG (incM ls M) n ≤ K + ls.length
  | [], M, h, n => by simpa [incM] using h n
  | l :: ls, M, h, n => by
    have := incM_max (K := K + 1) ls (missP M l.1 (missG M l.1 + 1)) (fun m => by
      rw [missG_P]
      have h1 := h m
      have h2 := h l.1
      split <;> omega) n
    simp only [incM, List.length_cons]
    omega

/-- What a call that moves a master leaves. -/
def MovedTo (w0 w : World) (hb b mb q : Nat) (L : TpL) (K0 : (Nat → Prop) → Prop) (M : List (Int × Int)) (life : Int) (R : Tp × Pl × Bool × Int) (E : List Pm) (e : Ending) (w' : World) : Prop :=
  ∃ (a : Option Addr) (c : Nat) (L' : TpL) (v' : Value), e = .returned (.tuple #[.slice a E.length c, .int .i64 R.2.2.2]) ∧ HmW w0 w' hb b mb q L' R.1 v' R.2.1 M life R.2.2.1 ∧ MsOwn w' w.heap.size (.slice a E.length c) E ∧ Upd (HmF hb b mb q L) w w' ∧ (∀ k ∈ tpBlocks L', k ∈ tpBlocks L ∨ w.heap.size ≤ k) ∧ ∀ Z : Nat → Prop, K0 Z → PlanOff w' (fun k => HmF hb b mb q L' k ∨ Z k) v' R.2.1

theorem BtW.moved {w0 ws w : World} {K0 : (Nat → Prop) → Prop} {L0 L : TpL} {hb b mb q : Nat} {t : Tp} {v : Value} {p : Pl} {M : List (Int × Int)} {life : Int} {dead : Bool} {a : Option Addr} {c : Nat} {E : List Pm} (h : BtW w0 ws K0 L0 w hb b mb q L t v p M life dead (.slice a E.length c) E) {R : Tp × Pl × Bool × Int} {n : Int} (hR : R = (t, p, dead, n)) :
    MovedTo w0 ws hb b mb q L0 K0 M life R E (.returned (.tuple #[.slice a E.length c, .int .i64 n])) w := by
  subst hR
  exact ⟨a, c, L, v, rfl, h.hm, h.row, h.upd, h.new, fun Z hz => (h.keep Z hz).2.grow (fun k hk => .inl (hk.elim (fun hk => .inl (.inl hk)) .inr))⟩

theorem BtW.begin {w0 ws w : World} {K0 : (Nat → Prop) → Prop} {L : TpL} {hb b mb q : Nat} {t : Tp} {v : Value} {p : Pl} {M : List (Int × Int)} {life : Int} {dead : Bool} (h : HmW w0 w hb b mb q L t v p M life dead) (hu : Upd (HmF hb b mb q L) ws w) (hK : ∀ Z : Nat → Prop, K0 Z → (∀ k, Z k → k < ws.heap.size) ∧ PlanOff w (fun k => HmF hb b mb q L k ∨ Z k) v p) : BtW w0 ws K0 L w hb b mb q L t v p M life dead (.slice none 0 0) [] :=
  ⟨h, h.hm.plan.grow (fun _ hk => .inl (hk.elim id (fun e => by cases e))), MsOwn.nil _ _, hu, fun _ hk => .inl hk, fun Z hz => ⟨(hK Z hz).1, (hK Z hz).2.grow (fun _ hk => .inl (hk.elim (fun hk => hk.elim .inl (fun e => by cases e)) .inr))⟩⟩

theorem HmW.missed {w0 w w' : World} {L : TpL} {hb b mb q : Nat} {t : Tp} {v : Value} {p : Pl} {M M' : List (Int × Int)} {life : Int} {dead : Bool} (h : HmW w0 w hb b mb q L t v p M life dead) (hm : MapIs w' q (missM M')) (hu : Upd (fun k => k = q) w w') : HmW w0 w' hb b mb q L t v p M' life dead := by
  obtain ⟨n1, n2, n3, n4, n5⟩ := h.hm.apart
  obtain ⟨pv, lv, e, hblk⟩ := h.hm.blk
  exact ⟨⟨⟨pv, lv, e, (hu.block _ n4 n3).trans hblk⟩, h.hm.tape.upd hu (fun k hk e => n2 (by rw [← e]; exact hk)), h.hm.plan.upd hu (fun k e => .inr (.inl e)), hm, h.hm.ne⟩, h.base.trans (hu.toBelow h.base.size (fun k e => h.above k (.inr (.inl e)))), h.above⟩

theorem HmW.notLife {w0 w : World} {hb b mb q : Nat} {L : TpL} {t : Tp} {v : Value} {p : Pl} {M : List (Int × Int)} {life : Int} {dead : Bool} (h : HmW w0 w hb b mb q L t v p M life dead) : ∀ k, HmF hb b mb q L k → ¬ ∃ cur, w.heap[k]? = some (.cells cur 134 (0, 0)) := by
  rintro k hk ⟨cur, hc⟩
  rcases hk with rfl | rfl | hk
  · obtain ⟨pv, lv, -, hblk⟩ := h.hm.blk
    rw [hblk] at hc
    simp at hc
  · obtain ⟨es, cl, m1, -⟩ := h.hm.miss
    rw [m1] at hc
    simp at hc
  · rcases h.hm.tape.kinds k hk with ⟨cs, h1⟩ | ⟨es, cl, h1⟩ | ⟨cs, h1⟩ <;> rw [h1] at hc <;> simp at hc
theorem owns_kind {w : World} {N e size : Nat} {v : Value} {n : Nat} {xs : List Value} (h : w.ownsRow N e size v n xs) : ∀ g, v.ownBlock = some g → ∃ cur, w.heap[g]? = some (.cells cur e (0, 0)) := by
  intro g hg
  rcases h.2 with ⟨h0, _⟩ | ⟨g', cap, cur, hv, _, h3, _⟩
  · rw [h0] at hg; cases hg
  · rw [hv] at hg
    simp only [Value.ownBlock, Option.some.injEq] at hg
    subst hg
    exact ⟨cur, h3⟩
theorem MsOwn.apart {w : World} {N N' e size : Nat} {v ov : Value} {n : Nat} {xs : List Value} {E : List Pm} (h : MsOwn w N ov E) (h' : w.ownsRow N' e size v n xs) (hne : e ≠ 47) : ∀ g, v.ownBlock = some g → ¬ some g = ov.ownBlock := by
  obtain ⟨ms, h0, -⟩ := h
  exact owns_types h' h0 hne

set_option maxRecDepth 100000 in
set_option maxHeartbeats 4000000 in
theorem HTick_any {w0 w : World} {K0 : (Nat → Prop) → Prop} {hb b mb q : Nat} {L : TpL} {t : Tp} {v : Value} {p : Pl} {M : List (Int × Int)} {life : Int} {dead : Bool} (hE : Env w0) (h : HmW w0 w hb b mb q L t v p M life dead) (hK : KeepAt K0 w hb b mb q L v p) (hr : readyB t life dead = false) (hg : goodP p = true) (hM : ∀ n, 0 ≤ missG M n ∧ missG M n ≤ 1000000) :
    Calls Tryz.prog 17 #[.pointer (some ⟨hb, 0, none⟩)] w (MovedTo w0 w hb b mb q L K0 (incM p.lives M) life (deadsR life (incM p.lives M) p.lives t p dead).1 (deadsR life (incM p.lives M) p.lives t p dead).2) := by
  obtain ⟨R, hR⟩ : ∃ R, deadsR life (incM p.lives M) p.lives t p dead = R := ⟨_, rfl⟩
  rw [hR]
  have hl5 := (small_of_good hg).2.2
  have hrd := Hready_any h.hm
  rw [hr] at hrd
  simp only [Bool.false_eq_true, if_false] at hrd
  have HRD := Lib.hid hrd
  obtain ⟨M', hM'⟩ : ∃ M', incM p.lives M = M' := ⟨_, rfl⟩
  rw [hM'] at hR ⊢
  have HR := Lib.hid (And.intro hR hM')
  have H := Lib.hid h
  have HKP := Lib.hid hK
  clear hK
  have HMX := Lib.hid hM
  obtain ⟨pv, lv, hv, -⟩ := h.hm.cells
  obtain ⟨pv0, lv0, e0, -, hlv⟩ := h.hm.plan.rd
  subst hv
  obtain ⟨rfl⟩ : lv0 = lv := by simp only [Value.agg.injEq, Array.mk.injEq, List.cons.injEq, and_true, true_and] at e0; exact e0.2.symm
  obtain ⟨la, lc, rfl, -⟩ := hlv.cells
  have hst : ∀ W (t' : Tp) (L' : TpL) (M2 : List (Int × Int)), HmW w0 W hb b mb q L' t' (.agg #[.int .i64 p.nodes, .int .i64 p.copies, pv, .slice la p.lives.length lc]) p M2 life dead → W.cell? ⟨hb, 4, none⟩ = some (.slice la p.lives.length lc) ∧ W.cell? ⟨hb, 5, none⟩ = some (.map (some q)) ∧
      ∀ k (hk : k < p.lives.length), ∃ bb off, la = some ⟨bb, off, none⟩ ∧ W.cell? ⟨bb, off + k * 2, none⟩ = some (.int .i64 p.lives[k].1) ∧ W.cell? ⟨bb, off + k * 2 + 1, none⟩ = some (.int .i64 p.lives[k].2) := by
    intro W t' L' M2 hw
    obtain ⟨pv2, lv2, hv2, -, -, -, -, c4, c5, -⟩ := hw.hm.cells
    obtain ⟨pv3, lv3, e3, -, hlv3⟩ := hw.hm.plan.rd
    simp only [Value.agg.injEq, Array.mk.injEq, List.cons.injEq, and_true, true_and] at hv2 e3
    obtain ⟨rfl, rfl⟩ := hv2
    obtain ⟨rfl, rfl⟩ := e3
    refine ⟨c4, c5, fun k hk => ?_⟩
    obtain ⟨a, c, e, -, -, hc⟩ := hlv3.cells
    simp only [Value.slice.injEq, true_and] at e
    obtain ⟨bb, off, e2, -, z0, z1⟩ := hc k hk
    exact ⟨bb, off, e.1.trans e2, z0, z1⟩
  have HST := Lib.hid hst
  have L0 : (p.lives.length : Int) ≤ 5 := by omega
  clear h hR hM' hM hrd hlv hst hr e0
  go_enter Tryz.func17, Tryz.ntmps17
  go_wp2_with fail
  refine HRD.out.mono ?_
  rintro _ w1 ⟨rfl, hb1⟩
  have h1 := H.out.below hb1
  obtain ⟨c4, c5, -⟩ := HST.out _ _ _ _ h1
  have H1 := Lib.hid (And.intro h1 hb1)
  clear h1 hb1
  go_wp2
  go_loopg [23] p.lives.length (fun gk v23 wt => ∃ (k : Nat), k ≤ p.lives.length ∧ gk = p.lives.length - k ∧ v23 = .int .i64 k ∧ HmW w0 wt hb b mb q L t (.agg #[.int .i64 p.nodes, .int .i64 p.copies, pv, .slice la p.lives.length lc]) p (incM (p.lives.take k) M) life dead ∧ Upd (fun j => j = q) w1 wt)
  case atStart => exact ⟨0, Nat.zero_le _, rfl, rfl, H1.out.1, Upd.refl _ _⟩
  case round =>
    obtain ⟨k, hk, rfl, rfl, hm, hu⟩ := hrel
    obtain ⟨y4, y5, hlc⟩ := HST.out _ _ _ _ hm
    by_cases hkt : k < p.lives.length
    · obtain ⟨bb, off, rfl, z0, z1⟩ := hlc k hkt
      have j1 : (k : Int) < (p.lives.length : Int) := by omega
      have j2 : (0 : Int) ≤ (k : Int) := by omega
      obtain ⟨nd, hnd⟩ : ∃ nd, p.lives[k].1 = nd := ⟨_, rfl⟩
      obtain ⟨lf, hlf⟩ : ∃ lf, p.lives[k].2 = lf := ⟨_, rfl⟩
      rw [hnd] at z0
      rw [hlf] at z1
      obtain ⟨M2, hM2⟩ : ∃ M2, incM (p.lives.take k) M = M2 := ⟨_, rfl⟩
      rw [hM2] at hm
      have hM3 : incM (p.lives.take (k + 1)) M = missP M2 nd (missG M2 nd + 1) := by
        rw [List.take_succ_eq_append_getElem hkt, incM_snoc, hM2, hnd]
      have hmx := incM_max (p.lives.take k) M HMX.out nd
      rw [hM2, List.length_take] at hmx
      obtain ⟨z, hz⟩ : ∃ z, missG M2 nd = z := ⟨_, rfl⟩
      rw [hz] at hM3 hmx
      have hwz : IntKind.i64.wrap (z + 1) = z + 1 := IntWalk.i64_in _ (by omega)
      have HK := Lib.hid (And.intro hM3 (And.intro hm (And.intro hu hz)))
      clear hlc hnd hlf hM2 hM3 hm hu hmx hz
      go_upto_region 8 with fail
      obtain ⟨wa, hwa⟩ : ∃ wa, wa = wr.alloc (.cells #[.int .i64 nd, .int .i64 lf] 134) := ⟨_, rfl⟩
      have hba : Below wr.heap.size wr wa := by rw [hwa]; exact below_alloc _ _
      have hxa : wa.heap[wr.heap.size]? = some (.cells #[.int .i64 nd, .int .i64 lf] 134 (0, 0)) := by rw [hwa]; exact heap_alloc_new _ _
      have hma := (HK.out.2.1.below hba).below (below_drewN (Below.refl _ _) 1)
      rw [← hwa]
      have x0 : wa.cell? ⟨wr.heap.size, 0, none⟩ = some (.int .i64 nd) := cells_of hxa 0 _ rfl
      have y6 : wa.cell? ⟨hb, 5, none⟩ = some (.map (some q)) := (HST.out _ _ _ _ (HK.out.2.1.below hba)).2.1
      have hlk : (Instr.lookup 120 (.map (some q)) (.int .i64 nd) false).run Tryz.prog wa.drew = .ok (.int .i64 z) wa.drew := by
        have := run_lookup_ints und_mapII und_intK zero_int (hma.hm.miss.same (w' := wa.drew) rfl) nd false
        simp only [Bool.false_eq_true, if_false] at this
        rw [this, mget_miss, HK.out.2.2.2]
      obtain ⟨w6, hmu, hm6, hu6⟩ := mapUpdate_run und_mapII und_intK (hma.hm.miss.same (w' := wa.drew) rfl) nd (.int .i64 (z + 1))
      rw [mput_miss] at hm6
      have H6 := Lib.hid (And.intro (hma.missed hm6 (show Upd (fun k => k = q) _ w6 from hu6)) ((HK.out.2.2.1.trans (Upd.of_below hba)).trans ((upd_drew _ _).trans hu6)))
      clear hba hxa hma hm6 hu6 y4 y5 z0 z1 hwa
      go_region
      all_goals
        go_wp2
        go_roundg (p.lives.length - (k + 1))
        case measure => omega
        case rel => exact ⟨k + 1, by omega, rfl, by go_num, by rw [HK.out.1]; exact H6.out.1, H6.out.2⟩
    · have j1 : ¬ (k : Int) < (p.lives.length : Int) := by omega
      have hkl : k = p.lives.length := by omega
      rw [List.take_of_length_le (by omega), HR.out.2] at hm
      have hu0 : Upd (HmF hb b mb q L) w wr := (Upd.of_below H1.out.2).trans (hu.or (fun j e => .inr (.inl e)))
      have hbt := BtW.begin (K0 := K0) hm hu0 (fun Z hz => ⟨(HKP.out Z hz).1, (HKP.out Z hz).2.upd hu0 (fun j hj => .inl hj)⟩)
      have HB := Lib.hid hbt
      have hrdl := fun W (hb : Below wr.heap.size wr W) => (hm.below hb).hm.plan.rd
      have hcl : ∀ W, Below wr.heap.size wr W → Calls Tryz.prog 71 #[.slice la p.lives.length lc] W (ClonedTo W 134 2 p.lives.length (lifeCells p.lives)) := by
        intro W hb
        obtain ⟨pv3, lv3, e3, -, hlv3⟩ := (hm.below hb).hm.plan.rd
        simp only [Value.agg.injEq, Array.mk.injEq, List.cons.injEq, and_true, true_and] at e3
        obtain ⟨rfl, rfl⟩ := e3
        exact CloneLives_any hlv3 (by omega)
      have HC := Lib.hid hcl
      clear hlc hm hu hu0 hbt hrdl hcl hkl
      go_wp2_with fail
      refine (HC.out _ (Below.refl _ _)).mono ?_
      rintro _ w2 ⟨cv, rfl, hcr, hb2⟩
      obtain ⟨ca, cc, rfl, -⟩ := (Sl.of_owns hcr).shape
      have hB2 := HB.out.below hb2
      have hcr2 := owns_mono hcr (show 0 ≤ wr.heap.size by omega)
      have hRR : (deadsR life M' (p.lives.drop 0) t p dead).1 = R.1 ∧ R.2 = [] ++ (deadsR life M' (p.lives.drop 0) t p dead).2 := by rw [List.drop_zero, HR.out.1]; exact ⟨rfl, rfl⟩
      have HS := Lib.hid (And.intro hB2 (And.intro hcr2 hRR))
      have hs0 := H1.out.1.base.size
      have hws : w0.heap.size ≤ w.heap.size := H.out.base.size
      have HWS := Lib.hid hws
      clear hb2 hB2 hcr hcr2 hRR hs0 hws y4 y5
      go_wp2
      go_loopg [5, 43] p.lives.length (fun gk v5 v43 wt => ∃ (k : Nat) (a : Option Addr) (c : Nat) (E : List Pm) (L' : TpL) (t' : Tp) (v' : Value) (p' : Pl) (dead' : Bool), k ≤ p.lives.length ∧ gk = p.lives.length - k ∧ v43 = .int .i64 k ∧ v5 = .slice a E.length c ∧ E.length ≤ k * 1000 ∧
        BtW w0 w K0 L wt hb b mb q L' t' v' p' M' life dead' (.slice a E.length c) E ∧ wt.ownsRow 0 134 2 (.slice ca p.lives.length cc) p.lives.length (lifeCells p.lives) ∧
        ((deadsR life M' (p.lives.drop k) t' p' dead').1 = R.1 ∧ R.2 = E ++ (deadsR life M' (p.lives.drop k) t' p' dead').2))
      case atStart => exact ⟨0, none, 0, [], L, t, _, p, dead, Nat.zero_le _, rfl, rfl, rfl, Nat.le_refl _, HS.out.1, HS.out.2.1, HS.out.2.2⟩
      case round =>
        obtain ⟨k, a, c, E, L', t', v', p', dead', hk, rfl, rfl, rfl, hEl, hbt, hcr, hRR⟩ := hrel
        by_cases hkt : k < p.lives.length
        · have j2 : (k : Int) < (p.lives.length : Int) := by omega
          have j3 : (0 : Int) ≤ (k : Int) := by omega
          obtain ⟨l, hl⟩ : ∃ l, p.lives[k] = l := ⟨_, rfl⟩
          obtain ⟨rest, hrest⟩ : ∃ rest, p.lives.drop (k + 1) = rest := ⟨_, rfl⟩
          rw [List.drop_eq_getElem_cons hkt, hl, hrest] at hRR
          obtain ⟨pv2, lv2, hv2, -, -, -, -, -, y5, -⟩ := hbt.hm.hm.cells
          obtain ⟨bb, off, cap2, e2, -, -, -, hcc⟩ := Rd.at (Sl.of_owns hcr).rd (by omega)
          obtain ⟨rfl, -⟩ : ca = some ⟨bb, off, none⟩ ∧ cc = cap2 := by simpa using e2
          have z0 : wr.cell? ⟨bb, off + k * 2, none⟩ = some (.int .i64 l.1) := hcc _ _ (by rw [← hl]; exact (lifeCells_get p.lives k hkt).1)
          have z1 : wr.cell? ⟨bb, off + k * 2 + 1, none⟩ = some (.int .i64 l.2) := hcc (k * 2 + 1) _ (by rw [← hl]; exact (lifeCells_get p.lives k hkt).2)
          obtain ⟨nd, lf⟩ := l
          simp only at z0 z1 hRR
          obtain ⟨z, hz⟩ : ∃ z, missG M' nd = z := ⟨_, rfl⟩
          have hBT := Lib.hid (And.intro hbt (And.intro hcr (And.intro hRR (And.intro hEl hrest))))
          have HZ := Lib.hid hz
          clear hbt hcr hcc e2 hRR hEl hl hrest hv2
          go_upto_region 13 with fail
          obtain ⟨wa, hwa⟩ : ∃ wa, wa = wr.alloc (.cells #[.int .i64 nd, .int .i64 lf] 134) := ⟨_, rfl⟩
          have hba : Below wr.heap.size wr wa := by rw [hwa]; exact below_alloc _ _
          have hxa : wa.heap[wr.heap.size]? = some (.cells #[.int .i64 nd, .int .i64 lf] 134 (0, 0)) := by rw [hwa]; exact heap_alloc_new _ _
          have hB3 := hBT.out.1.below hba
          rw [← hwa]
          have x0 : wa.cell? ⟨wr.heap.size, 0, none⟩ = some (.int .i64 nd) := cells_of hxa 0 _ rfl
          obtain ⟨pv3, lv3, hv3, -, -, -, -, -, y6, -⟩ := hB3.hm.hm.cells
          have hlk : ∀ j, (Instr.lookup 120 (.map (some q)) (.int .i64 nd) false).run Tryz.prog (wa.drewN j) = .ok (.int .i64 z) (wa.drewN j) := by
            intro j
            have := run_lookup_ints und_mapII und_intK zero_int (hB3.hm.hm.miss.same (w' := wa.drewN j) rfl) nd false
            simp only [Bool.false_eq_true, if_false] at this
            rw [this, mget_miss, HZ.out]
          have H3 := Lib.hid (And.intro hB3 (And.intro hba hxa))
          clear hB3 hba hxa hwa z0 z1 y5 hz
          go_quiet (fail)
          obtain ⟨wq, hwq⟩ : ∃ wq, wq = wa.drewN nq := ⟨_, rfl⟩
          rw [← hwq]
          have hB4 : BtW w0 w K0 L wq hb b mb q L' t' v' p' M' life dead' (.slice a E.length c) E := by rw [hwq]; exact H3.out.1.below (below_drewN (Below.refl _ _) _)
          have hba4 : Below wr.heap.size wr wq := by rw [hwq]; exact below_drewN H3.out.2.1 _
          have hx4 : wq.heap[wr.heap.size]? = some (.cells #[.int .i64 nd, .int .i64 lf] 134 (0, 0)) := by rw [hwq]; exact H3.out.2.2
          have x1 : wq.cell? ⟨wr.heap.size, 0, none⟩ = some (.int .i64 nd) := cells_of hx4 0 _ rfl
          have hcr4 := owns_upd hBT.out.2.1 (Upd.of_below (F := fun _ => False) hba4) (fun _ _ h => h)
          have H4 := Lib.hid (And.intro hB4 (And.intro hba4 hcr4))
          clear hB4 hba4 hx4 hcr4 hwq x0 y6 hlk H3
          by_cases hz4 : z ≤ 4
          · go_wp2
            go_roundg (p.lives.length - (k + 1))
            case measure => omega
            case rel =>
              refine ⟨k + 1, a, c, E, L', t', v', p', dead', by omega, rfl, by go_num, rfl, by have := hBT.out.2.2.2.1; omega, H4.out.1, H4.out.2.2, ?_⟩
              have h1 := hBT.out.2.2.1
              rw [deadsR, if_pos (by simp only; rw [HZ.out]; exact hz4)] at h1
              rw [hBT.out.2.2.2.2]
              exact h1
          · have hdo := HDo_any hE H4.out.1.hm ⟨2, nd, 0, 0⟩
            obtain ⟨r1, r2, r3, cd, hdr⟩ : ∃ r1 r2 r3 cd, doR t' p' life dead' ⟨2, nd, 0, 0⟩ = (r1, r2, r3, cd) := ⟨_, _, _, _, rfl⟩
            obtain ⟨E1, hde⟩ : ∃ E1, doE t' p' life dead' ⟨2, nd, 0, 0⟩ = E1 := ⟨_, rfl⟩
            have hst : (deadsR life M' ((nd, lf) :: rest) t' p' dead') = if cd ≠ 0 ∧ cd ≠ 21 then ((r1, r2, r3, cd), E1) else ((deadsR life M' rest r1 r2 r3).1, E1 ++ (deadsR life M' rest r1 r2 r3).2) := by
              rw [deadsR, if_neg (by simp only; rw [HZ.out]; exact hz4)]
              simp only
              rw [hdr, hde]
            rw [hdr, hde] at hdo
            have HDO := Lib.hid hdo
            have HSTP := Lib.hid hst
            clear hdo hdr hde hst
            go_wp2_with fail
            refine HDO.out.mono ?_
            rintro _ w5 hd
            obtain ⟨a1, c1, L5, v5, rfl, hb5, hm5, hl5, -⟩ := H4.out.1.did hd
            have hcr5 : w5.ownsRow 0 134 2 (.slice (some ⟨bb, off, none⟩) p.lives.length cc) p.lives.length (lifeCells p.lives) := by
              obtain ⟨_, _, _, _, _, _, _, hu, _⟩ := hd
              exact owns_upd H4.out.2.2 hu (fun g hg hf => H4.out.1.hm.notLife g hf (owns_kind H4.out.2.2 g hg))
            have H5 := Lib.hid (And.intro hb5 (And.intro hm5 (And.intro hl5 hcr5)))
            have hws5 : w.heap.size ≤ w5.heap.size := hb5.upd.size
            clear hd hb5 hm5 hl5 hcr5 x1
            go_wp2_with (first | (at_builtin; refine wpList_append_ms rfl _ _ rfl w.heap.size (.slice a E.length c) E rfl H5.out.1.row (.slice a1 E1.length c1) E1 rfl H5.out.2.1.rd (by have := H5.out.2.2.1; have := hBT.out.2.2.2.1; omega) hws5 ?_; intro a6 c6 w6 hrow6 hu6 hblk6))
            all_goals
              have hB6 := H5.out.1.grew HWS.out hrow6 hu6 hblk6
              have hcr6 := owns_upd H5.out.2.2.2 hu6 (H5.out.1.row.apart H5.out.2.2.2 (by decide))
              rw [← List.length_append] at hB6
            · rename_i hc0
              have hno : ¬ (cd ≠ 0 ∧ cd ≠ 21) := fun h => h.1 hc0
              go_roundg (p.lives.length - (k + 1))
              case measure => omega
              case rel =>
                have h1 := hBT.out.2.2.1
                rw [HSTP.out, if_neg hno] at h1
                refine ⟨k + 1, a6, c6, E ++ E1, L5, r1, v5, r2, r3, by omega, rfl, by go_num, by rw [List.length_append], by rw [List.length_append]; have := H5.out.2.2.1; have := hBT.out.2.2.2.1; omega, hB6, hcr6, ?_⟩
                rw [hBT.out.2.2.2.2]
                exact ⟨h1.1, by rw [h1.2, List.append_assoc]⟩
            · rename_i hc0 hc1
              have hyes : cd ≠ 0 ∧ cd ≠ 21 := ⟨hc0, by simpa using hc1.2⟩
              have h1 := hBT.out.2.2.1
              rw [HSTP.out, if_pos hyes] at h1
              rw [← List.length_append]
              refine bodyPost_ret (v := .tuple #[.slice a6 (E ++ E1).length c6, .int .i64 cd]) (by simp [results, Tryz.results17, go_sem]) rfl ?_
              rw [h1.2]
              exact hB6.moved (by rw [← h1.1])
            · rename_i hc0 hc1
              have hno : ¬ (cd ≠ 0 ∧ cd ≠ 21) := by
                rintro ⟨g1, g2⟩
                rcases hc1 with h | h
                · simp [g1] at h
                · simp [g2] at h
              go_roundg (p.lives.length - (k + 1))
              case measure => omega
              case rel =>
                have h1 := hBT.out.2.2.1
                rw [HSTP.out, if_neg hno] at h1
                refine ⟨k + 1, a6, c6, E ++ E1, L5, r1, v5, r2, r3, by omega, rfl, by go_num, by rw [List.length_append], by rw [List.length_append]; have := H5.out.2.2.1; have := hBT.out.2.2.2.1; omega, hB6, hcr6, ?_⟩
                rw [hBT.out.2.2.2.2]
                exact ⟨h1.1, by rw [h1.2, List.append_assoc]⟩
        · have j2 : ¬ (k : Int) < (p.lives.length : Int) := by omega
          rw [List.drop_of_length_le (by omega)] at hRR
          have HFI := Lib.hid (And.intro hbt hRR)
          clear hbt hcr hRR
          go_wp2
          refine bodyPost_ret (v := .tuple #[.slice a E.length c, .int .i64 0]) (by simp [results, Tryz.results17, go_sem]) rfl ?_
          obtain ⟨h1, h2, h3⟩ := HFI.out
          rw [h3, ← h2]
          simp only [deadsR, List.append_nil]
          exact h1.moved rfl
end Go.Proofs.YtcpaaleogmiamaaGreatDoor
