/- The walk of tape.On. -/
import Derived.Test.YtcpaaleogmiamaaGreatDoorMp15
namespace Go.Proofs.YtcpaaleogmiamaaGreatDoor
open Go.RowKit

/-- What On leaves. -/
def OnTo (t t' : Tp) : Prop := t'.room = t.room ∧ t'.down = false ∧ t'.acts = t.acts ∧ t'.armed = t.armed ∧ t'.life = t.life ∧ All2 (fun x y => y.1 = x.1 ∧ KeptF x.2 y.2) t.files t'.files
def OnAt (t t' : Tp) : Prop := if t.down = true then OnTo t t' else t' = t

theorem OnR.names {done : List (List UInt8)} {l l' : List (List UInt8 × Fl)} (h : OnR done l l') : l'.map (·.1) = l.map (·.1) := by
  unfold OnR at h
  induction h with
  | nil => rfl
  | cons h1 _ ih => simp only [List.map_cons, ih, h1.1]
theorem OnR.take_succ {ks : List (List UInt8)} {k : Nat} (hk : k < ks.length) {l l' : List (List UInt8 × Fl)} (h : OnR (ks.take k ++ [ks[k]]) l l') : OnR (ks.take (k + 1)) l l' := by
  rw [List.take_succ_eq_append_getElem hk]; exact h
theorem onF_ok {t : Tp} (h : TpOk t) {n : List UInt8} {g : Nat} {f : Fl} (hn : (t.files.map (·.1)).Nodup) (hf : fget t.files n = some f) (hg : f.safe + g ≤ f.data.length) : TpOk { t with files := updF t.files n (onF g) } := by
  have hsum := sum_updF (f := onF g) hn hf
  have h1 : (onF g f).data.length ≤ f.data.length := by simp only [onF, List.length_take]; omega
  refine ⟨h.room, by have := h.sum; simp only; omega, by simp only [updF_len]; exact h.few, ?_, h.armed⟩
  intro x hx
  simp only at hx
  obtain ⟨y, hy, rfl⟩ := List.mem_map.1 hx
  by_cases e : y.1 = n
  · rw [if_pos e]
    have hy2 : fget t.files n = some y.2 := by
      unfold fget
      have : t.files.find? (fun x => decide (x.1 = n)) = some y := by
        obtain ⟨i, hi, rfl⟩ := List.mem_iff_getElem.1 hy
        rw [List.find?_eq_some_iff_getElem]
        refine ⟨by simpa using e, i, hi, rfl, fun j hj => ?_⟩
        have := List.pairwise_iff_getElem.1 hn j i (by simp; omega) (by simpa using hi) hj
        simp only [List.getElem_map] at this
        simpa using fun h => this (h.trans e.symm)
      rw [this]; rfl
    rw [hf] at hy2
    obtain rfl : f = y.2 := by simpa using hy2
    simp only [onF, List.length_take]
    omega
  · rw [if_neg e]
    exact h.safe y hy

set_option maxRecDepth 100000 in
set_option maxHeartbeats 4000000 in
theorem TOn_any {w : World} {b mb : Nat} {L : TpL} {t : Tp} (h : TpAt w b mb L t) (hn : ∀ x ∈ t.files, x.1.length ≤ 32) {fv : Value} {l : List Int} (hf : ∀ W, Upd (TpF b mb L) w W → IntsRd W fv l) :
    Calls Tryz.prog 26 #[.pointer (some ⟨b, 0, none⟩), fv] w fun e w' => e = .returned (.tuple #[]) ∧ ∃ L' t', TpAt w' b mb L' t' ∧ tpBlocks L' = tpBlocks L ∧ OnAt t t' ∧ Upd (TpF b mb L) w w' := by
  obtain ⟨c0, c1, c2, c3, c4, c5, fz⟩ := h.cells
  have HO0 := Lib.hid (show OnAt t = if t.down = true then OnTo t else fun t' => t' = t from by funext t'; unfold OnAt; split <;> rfl)
  cases hd : t.down with
  | false =>
    rw [hd] at c2 HO0
    have H := Lib.hid (And.intro h (Upd.refl (TpF b mb L) w))
    clear h hn hf hd c0 c1 c3 c4 c5 fz
    go_enter Tryz.func26, Tryz.ntmps26
    go_wp2
    first | go_end0 | (refine bodyPost_ret (results_none rfl _ _ _) rfl ?_)
    exact ⟨rfl, L, t, H.out.1, rfl, by rw [HO0.out]; rfl, H.out.2⟩
  | true =>
    rw [hd] at c2 HO0
    have hok := h.ok
    have f2 := fz 2
    have p1 := h.put (t' := { t with down := false }) 2 (.bool false) rfl (hok.same rfl rfl (Nat.le_refl _)) rfl
    have hu1 := (upd_set1 w b 2 (.bool false)).or (G := TpF b mb L) (fun k e => .inl e)
    obtain ⟨w1, hw1⟩ : ∃ w1, w1 = w.setCell ⟨b, 2, none⟩ (.bool false) := ⟨_, rfl⟩
    have HW1 := Lib.hid hw1
    rw [← hw1] at p1 hu1
    have hnm := TNames_any p1 (fun x hx => hn x hx)
    have hs1 : w.heap.size ≤ w1.heap.size := hu1.size
    have hlt0 := h.fLt
    have HP := Lib.hid (And.intro p1 (And.intro hu1 (And.intro hs1 hlt0)))
    have HNM := Lib.hid hnm
    obtain ⟨ks, hks⟩ : ∃ ks, namesV { t with down := false } = ks := ⟨_, rfl⟩
    rw [hks] at HNM
    have hmem : ∀ x, x ∈ ks ↔ x ∈ t.files.map (·.1) := by
      intro x
      rw [← hks]
      exact (List.mergeSort_perm _ _).mem_iff
    have hkl : ks.length ≤ 256 := by
      rw [← hks]
      have := hok.few
      simpa [namesV] using this
    have HM := Lib.hid hmem
    have hst := OnR.start t.files
    have HST := Lib.hid hst
    obtain ⟨fa, fc, rfl, hfl1, hfl2, -⟩ := (hf w (Upd.refl _ _)).cells
    have hfc : ∀ W, Upd (TpF b mb L) w W → ∀ k (hk : k < l.length), ∃ fb off, fa = some ⟨fb, off, none⟩ ∧ W.cell? ⟨fb, off + k, none⟩ = some (.int .i64 l[k]) := by
      intro W hu k hk
      obtain ⟨a, c, e, -, -, hc⟩ := (hf W hu).cells
      simp only [Value.slice.injEq, true_and] at e
      obtain ⟨fb, off, e2, -, hc⟩ := hc k hk
      exact ⟨fb, off, e.1.trans e2, hc⟩
    have HFC := Lib.hid hfc
    have hfl3 : (l.length : Int) ≤ 9223372036854775807 := by unfold maxLen at hfl2; omega
    clear h hn hf hd c0 c1 c3 c4 c5 fz p1 hu1 hnm hks hmem hst hlt0 hok hs1 hfc hfl1 hfl2
    go_enter Tryz.func26, Tryz.ntmps26
    go_upto_region 2 with fail
    rw [← HW1.out]
    clear hw1
    go_wp2_with fail
    refine HNM.out.mono ?_
    rintro _ w2 ⟨nv, rfl, hrow, hb2⟩
    have hp2 := HP.out.1.below hb2
    have hu2 := HP.out.2.1.trans (Upd.of_below (F := TpF b mb L) hb2)
    have hrs := (Sl.of_owns hrow).rd.shape
    obtain ⟨na, ncap, rfl, hnc⟩ := hrs
    have hread : ∀ W, Upd (TpF b mb L) w2 W → ∀ k (hk : k < ks.length), ∃ nb off, na = some ⟨nb, off, none⟩ ∧ W.cell? ⟨nb, off + k, none⟩ = some (.string (bs ks[k])) := by
      intro W hu k hk
      have hs := HP.out.2.2.1
      have h1 := owns_upd hrow hu (fun g hg hF => by have h1 := (owns_lt hrow g hg).1; have h2 := HP.out.2.2.2 g hF; omega)
      obtain ⟨nb, off, cap, e, _, _, hb, hc⟩ := Rd.at (Sl.of_owns h1).rd (by omega)
      simp only [Value.slice.injEq, true_and] at e
      exact ⟨nb, off, e.1, hc k _ (by simp [hk])⟩
    have HR := Lib.hid hread
    have HU2 := Lib.hid (And.intro hp2 hu2)
    have L0 : (ks.length : Int) ≤ 256 := by omega
    clear hrow hb2 hp2 hu2 hread
    go_wp2
    go_loopg [4, 25] ks.length (fun gk v4 v25 wt => ∃ (k n : Nat) (L2 : TpL) (t2 : Tp), k ≤ ks.length ∧ gk = ks.length - k ∧ v25 = .int .i64 k ∧ v4 = .int .i64 n ∧ n ≤ k ∧ TpAt wt b mb L2 t2 ∧ tpBlocks L2 = tpBlocks L ∧
      (t2.room = t.room ∧ t2.down = false ∧ t2.acts = t.acts ∧ t2.armed = t.armed ∧ t2.life = t.life ∧ OnR (ks.take k) t.files t2.files) ∧ Upd (TpF b mb L) w2 wt)
    case atStart => exact ⟨0, 0, L, _, Nat.zero_le _, rfl, rfl, rfl, Nat.le_refl _, HU2.out.1, rfl, ⟨rfl, rfl, rfl, rfl, rfl, HST.out⟩, Upd.refl _ _⟩
    case round =>
      obtain ⟨k, n, L2, t2, hk, rfl, rfl, rfl, hnk, hat, hbl, hsame, hut⟩ := hrel
      by_cases hkt : k < ks.length
      · obtain ⟨nb, noff, rfl, x0⟩ := HR.out _ hut k hkt
        have j1 : (k : Int) < (ks.length : Int) := by omega
        have j2 : (0 : Int) ≤ (k : Int) := by omega
        obtain ⟨nm, hnm⟩ : ∃ nm, ks[k] = nm := ⟨_, rfl⟩
        have hin : nm ∈ t2.files.map (·.1) := by rw [hsame.2.2.2.2.2.names]; exact (HM.out nm).1 (by rw [← hnm]; exact List.getElem_mem hkt)
        have hget : ∃ x, flGet L2 nm = some x := by
          rw [hat.eq] at hin
          obtain ⟨y, hy, e⟩ := List.mem_map.1 hin
          obtain ⟨z, hz, rfl⟩ := List.mem_map.1 hy
          cases hg : flGet L2 nm with
          | some x => exact ⟨x, rfl⟩
          | none =>
            have := List.find?_eq_none.1 hg z hz
            simp only [decide_eq_true_eq] at this
            exact absurd e this
        obtain ⟨x, hx⟩ := hget
        have hlk := hat.lookup nm
        rw [hx] at hlk
        have hlk' : (Instr.lookup 127 (.map (some mb)) (.string (bs nm)) false).run Tryz.prog wr = .ok (.pointer (some ⟨x.2.1, 0, none⟩)) wr := hlk
        obtain ⟨c0, -⟩ := hat.cells
        have hfl := hat.fls x (flGet_mem hx).1
        have hsafe : x.2.2.safe ≤ x.2.2.data.length := hat.ok.safe (x.1, x.2.2) (by rw [hat.eq]; exact List.mem_map.2 ⟨x, (flGet_mem hx).1, rfl⟩)
        have hdl : x.2.2.data.length ≤ 4194304 := by
          have h1 := hat.ok.sum
          have h2 := hat.ok.room.2
          have h3 : x.2.2.data.length ≤ dataSum t2.files := le_sum (List.mem_map.2 ⟨(x.1, x.2.2), by rw [hat.eq]; exact List.mem_map.2 ⟨x, (flGet_mem hx).1, rfl⟩, rfl⟩)
          omega
        have hfg : fget t2.files nm = some x.2.2 := by rw [hat.eq, fget_tp, hx]; rfl
        have d0 : wr.cell? ⟨x.2.1, 0, none⟩ = some (.string (bs x.2.2.data)) := cells_of hfl 0 _ rfl
        have d1 : wr.cell? ⟨x.2.1, 1, none⟩ = some (.int .i64 (x.2.2.safe : Int)) := cells_of hfl 1 _ rfl
        have g0 : wr.frozen? ⟨x.2.1, 0, none⟩ = false := frozen_of hfl
        have g1 : wr.frozen? ⟨x.2.1, 1, none⟩ = false := frozen_of hfl
        have hz : ((bs x.2.2.data).size : Int) = (x.2.2.data.length : Int) := by rw [bs_size]
        obtain ⟨q, hq⟩ : ∃ q : Nat, x.2.2.data.length - x.2.2.safe = q := ⟨_, rfl⟩
        have hq2 : IntKind.i64.wrap (((bs x.2.2.data).size : Int) - (x.2.2.safe : Int)) = (q : Int) := by rw [hz, IntWalk.i64_in _ (by omega)]; omega
        have hq3 : wrap64 (((bs x.2.2.data).size : Int) - (x.2.2.safe : Int)) = (q : Int) := by rw [← IntWalk.i64_left]; exact hq2
        rw [hnm] at x0
        have HAT := Lib.hid (And.intro hat (And.intro hbl (And.intro hsame (And.intro hut (And.intro hx (And.intro hfg (And.intro hnm (And.intro hsafe (And.intro hdl (And.intro hq hfl))))))))))
        clear hat hbl hsame hut hlk hfl hin hz hx hfg hnm hsafe hdl hq hq3
        go_upto_region 7 with fail
        go_quiet (fail)
        obtain ⟨wq, hwq⟩ : ∃ wq, wq = wr.drewN nq := ⟨_, rfl⟩
        rw [← hwq]
        have huq : Upd (TpF b mb L) w2 wq := by rw [hwq]; exact HAT.out.2.2.2.1.trans (upd_drewN _ _ _)
        have hatq : TpAt wq b mb L2 t2 := by rw [hwq]; exact HAT.out.1.below (below_drewN (Below.refl _ _) _)
        have HQ := Lib.hid (And.intro huq hatq)
        have hfq := hatq.fls x (flGet_mem HAT.out.2.2.2.2.1).1
        have HFQ := Lib.hid hfq
        clear d0 d1 g0 g1 hwq huq hatq c0 hlk' x0 hq2
        by_cases hq0 : q = 0
        · have e0 : ((q : Int) == 0) = true := by simp [hq0]
          go_wp2
          go_roundg (ks.length - (k + 1))
          case measure => omega
          case rel =>
            obtain ⟨hat, hbl, ⟨s1, s2, s3, s4, s5, s6⟩, hut, hx, hfg, hnm, hsafe, hdl, hq, hfl⟩ := HAT.out
            refine ⟨k + 1, n, L2, t2, by omega, rfl, by go_num, rfl, by omega, HQ.out.2, hbl, ⟨s1, s2, s3, s4, s5, OnR.take_succ hkt (s6.skip ?_)⟩, HQ.out.1⟩
            rw [hnm]
            intro y hy hyn
            have : y.2 = x.2.2 := by
              have hn2 := hat.names
              obtain ⟨i, hi, rfl⟩ := List.mem_iff_getElem.1 hy
              unfold fget at hfg
              rw [Option.map_eq_some_iff] at hfg
              obtain ⟨z, hz, e⟩ := hfg
              have hz1 := List.mem_of_find?_eq_some hz
              have hz2 : z.1 = nm := by simpa using List.find?_some hz
              obtain ⟨j, hj, rfl⟩ := List.mem_iff_getElem.1 hz1
              have hij : i = j := by
                refine Classical.byContradiction fun hne => ?_
                have h4 := List.pairwise_iff_getElem.1 hn2
                rcases Nat.lt_or_gt_of_ne hne with hlt | hlt
                · exact h4 i j (by simpa using hi) (by simpa using hj) hlt (by simp [hyn, hz2])
                · exact h4 j i (by simpa using hj) (by simpa using hi) hlt (by simp [hyn, hz2])
              subst hij
              exact e
            rw [this]
            omega
        · have e0 : ((q : Int) == 0) = false := by simp [hq0]
          have e1 : ¬ (q : Int) = 0 := by omega
          have en : wrap64 ((n : Int) + 1) = ((n + 1 : Nat) : Int) := by unfold wrap64; omega
          have hfa := HFC.out wq (HU2.out.2.trans HQ.out.1)
          have hkp : ∀ (z : Int) W, Calls Tryz.prog 82 #[.int .i64 z, .int .i64 (q : Int)] W fun e w' => ∃ f : Nat, f ≤ q ∧ e = .returned (.int .i64 (f : Int)) ∧ w' = W :=
            fun z W => Tkept_any z q (by obtain ⟨-, -, -, -, -, -, -, -, h1, h2, -⟩ := HAT.out; omega) W
          have HKP := Lib.hid hkp
          have d0 : wq.cell? ⟨x.2.1, 0, none⟩ = some (.string (bs x.2.2.data)) := cells_of hfq 0 _ rfl
          have d1 : wq.cell? ⟨x.2.1, 1, none⟩ = some (.int .i64 (x.2.2.safe : Int)) := cells_of hfq 1 _ rfl
          have g0 : wq.frozen? ⟨x.2.1, 0, none⟩ = false := frozen_of hfq
          have hsum : ∀ f : Nat, f ≤ q → ∃ sf : Nat, IntKind.i64.wrap ((x.2.2.safe : Int) + (f : Int)) = (sf : Int) ∧ (sf : Int) ≤ ((bs x.2.2.data).size : Int) ∧ (0 : Int) ≤ (sf : Int) ∧ (bs x.2.2.data).extract 0 sf = bs (x.2.2.data.take sf) ∧ ∃ g, sf = x.2.2.safe + g ∧ sf ≤ x.2.2.data.length := by
            intro f hf
            obtain ⟨-, -, -, -, -, -, -, h1, h2, h3, -⟩ := HAT.out
            have hz := bs_size x.2.2.data
            exact ⟨x.2.2.safe + f, by rw [IntWalk.i64_in _ (by omega)]; omega, by omega, by omega, by rw [bs_extract]; simp, f, rfl, by omega⟩
          have HS := Lib.hid hsum
          clear hkp hsum hq0
          by_cases hl : 0 < l.length
          · obtain ⟨r, hr, hrl⟩ : ∃ r, n % l.length = r ∧ r < l.length := ⟨_, rfl, Nat.mod_lt _ hl⟩
            obtain ⟨fb, fo, rfl, y0⟩ := hfa r hrl
            have l1 : (0 : Int) < (l.length : Int) := by omega
            have l2 : ¬ (l.length : Int) = 0 := by omega
            have hrem : (n : Int).tmod (l.length : Int) = (r : Int) := by rw [← hr]; rfl
            have hrl : (r : Int) < (l.length : Int) := by omega
            have hr0 : (0 : Int) ≤ (r : Int) := by omega
            clear hfa hr
            go_upto_region 13 with fail
            go_cut [] from 59 to 74 (fun wc => ∃ g : Nat, x.2.2.safe + g ≤ x.2.2.data.length ∧ wc.heap[x.2.1]? = some (.cells #[.string (bs (x.2.2.data.take (x.2.2.safe + g))), .int .i64 (x.2.2.safe : Int)] 150 (0, 0)) ∧ Upd (fun k => k = x.2.1) wq wc)
            case first =>
              go_region_law
                (first | (go_simp; go_at_call 82; refine (HKP.out _ _).mono ?_; rintro _ w5 ⟨f, hf, rfl, rfl⟩; obtain ⟨sf, s0, s1, s2, s3, s4⟩ := HS.out f hf))
              all_goals
                go_wp2_with fail
                go_meet
                obtain ⟨g, rfl, s5⟩ := s4
                exact ⟨g, s5, setCell_same (o := 0) HFQ.out, (upd_set1 wq x.2.1 0 _).trans (upd_drew _ _)⟩
            obtain ⟨g, hg, hcf, hcu⟩ := hcut
            have e3 : wc.cell? ⟨x.2.1, 0, none⟩ = some (.string (bs (x.2.2.data.take (x.2.2.safe + g)))) := cells_of hcf 0 _ rfl
            have e5 : wc.cell? ⟨x.2.1, 1, none⟩ = some (.int .i64 (x.2.2.safe : Int)) := cells_of hcf 1 _ rfl
            have e4 : wc.frozen? ⟨x.2.1, 1, none⟩ = false := frozen_of hcf
            have hln : ((bs (x.2.2.data.take (x.2.2.safe + g))).size : Int) = ((x.2.2.safe + g : Nat) : Int) := by rw [bs_size, List.length_take]; omega
            have hfin : ∀ wz, wz = wc.setCell ⟨x.2.1, 1, none⟩ (.int .i64 ((x.2.2.safe + g : Nat) : Int)) → TpAt wz b mb (updL L2 nm (onF g)) { t2 with files := updF t2.files nm (onF g) } ∧ Upd (TpF b mb L) w2 wz ∧ OnR (ks.take (k + 1)) t.files (updF t2.files nm (onF g)) := by
              intro wz hwz
              obtain ⟨hat, hbl, ⟨s1, s2, s3, s4, s5, s6⟩, hut, hx, hfg, hnm, hsafe, hdl, hq, hfl⟩ := HAT.out
              have hu : Upd (fun k => k = x.2.1) wq wz := by rw [hwz]; exact hcu.trans (upd_set1 wc x.2.1 1 _)
              have hb : wz.heap[x.2.1]? = some (.cells (flCells (onF g x.2.2)) 150 (0, 0)) := by rw [hwz]; exact setCell_same (o := 1) hcf
              refine ⟨HQ.out.2.file hx (onF g) hu hb (onF_ok HQ.out.2.ok HQ.out.2.names hfg hg), HQ.out.1.trans (hu.or (fun k e => .inr (.inr (by rw [← hbl]; exact List.mem_map.2 ⟨x, (flGet_mem hx).1, e.symm⟩)))), OnR.take_succ hkt ?_⟩
              rw [hnm]
              refine s6.step (fun y hy hyn => ?_)
              have hy2 : fget t2.files nm = some y.2 := by
                unfold fget
                have : t2.files.find? (fun x => decide (x.1 = nm)) = some y := by
                  obtain ⟨i, hi, rfl⟩ := List.mem_iff_getElem.1 hy
                  rw [List.find?_eq_some_iff_getElem]
                  refine ⟨by simpa using hyn, i, hi, rfl, fun j hj => ?_⟩
                  have := List.pairwise_iff_getElem.1 hat.names j i (by simp; omega) (by simpa using hi) hj
                  simp only [List.getElem_map] at this
                  simpa using fun h => this (h.trans hyn.symm)
                rw [this]; rfl
              rw [hfg] at hy2
              have hy3 : x.2.2 = y.2 := by simpa using hy2
              rw [← hy3]
              exact hg
            have HFIN := Lib.hid hfin
            obtain ⟨sg, hsg⟩ : ∃ sg, x.2.2.safe + g = sg := ⟨_, rfl⟩
            rw [hsg] at e3 hln HFIN
            clear hcf hcu hfin hfq d0 d1 g0 hg hsg
            go_wp2
            go_roundg (ks.length - (k + 1))
            case measure => omega
            case rel =>
              obtain ⟨z1, z2, z3⟩ := HFIN.out _ rfl
              obtain ⟨hat, hbl, ⟨s1, s2, s3, s4, s5, s6⟩, -⟩ := HAT.out
              exact ⟨k + 1, n + 1, updL L2 nm (onF g), _, by omega, rfl, by go_num, by go_num, by omega, z1, by rw [updL_blocks]; exact hbl, ⟨s1, s2, s3, s4, s5, z3⟩, z2⟩
          · have l1 : ¬ (0 : Int) < (l.length : Int) := by omega
            clear hfa
            go_upto_region 13 with fail
            go_cut [] from 59 to 74 (fun wc => ∃ g : Nat, x.2.2.safe + g ≤ x.2.2.data.length ∧ wc.heap[x.2.1]? = some (.cells #[.string (bs (x.2.2.data.take (x.2.2.safe + g))), .int .i64 (x.2.2.safe : Int)] 150 (0, 0)) ∧ Upd (fun k => k = x.2.1) wq wc)
            case first =>
              go_region_law
                (first | (go_simp; go_at_call 82; refine (HKP.out _ _).mono ?_; rintro _ w5 ⟨f, hf, rfl, rfl⟩; obtain ⟨sf, s0, s1, s2, s3, s4⟩ := HS.out f hf))
              all_goals
                go_wp2_with fail
                go_meet
                obtain ⟨g, rfl, s5⟩ := s4
                exact ⟨g, s5, setCell_same (o := 0) HFQ.out, (upd_set1 wq x.2.1 0 _).trans (upd_drew _ _)⟩
            obtain ⟨g, hg, hcf, hcu⟩ := hcut
            have e3 : wc.cell? ⟨x.2.1, 0, none⟩ = some (.string (bs (x.2.2.data.take (x.2.2.safe + g)))) := cells_of hcf 0 _ rfl
            have e5 : wc.cell? ⟨x.2.1, 1, none⟩ = some (.int .i64 (x.2.2.safe : Int)) := cells_of hcf 1 _ rfl
            have e4 : wc.frozen? ⟨x.2.1, 1, none⟩ = false := frozen_of hcf
            have hln : ((bs (x.2.2.data.take (x.2.2.safe + g))).size : Int) = ((x.2.2.safe + g : Nat) : Int) := by rw [bs_size, List.length_take]; omega
            have hfin : ∀ wz, wz = wc.setCell ⟨x.2.1, 1, none⟩ (.int .i64 ((x.2.2.safe + g : Nat) : Int)) → TpAt wz b mb (updL L2 nm (onF g)) { t2 with files := updF t2.files nm (onF g) } ∧ Upd (TpF b mb L) w2 wz ∧ OnR (ks.take (k + 1)) t.files (updF t2.files nm (onF g)) := by
              intro wz hwz
              obtain ⟨hat, hbl, ⟨s1, s2, s3, s4, s5, s6⟩, hut, hx, hfg, hnm, hsafe, hdl, hq, hfl⟩ := HAT.out
              have hu : Upd (fun k => k = x.2.1) wq wz := by rw [hwz]; exact hcu.trans (upd_set1 wc x.2.1 1 _)
              have hb : wz.heap[x.2.1]? = some (.cells (flCells (onF g x.2.2)) 150 (0, 0)) := by rw [hwz]; exact setCell_same (o := 1) hcf
              refine ⟨HQ.out.2.file hx (onF g) hu hb (onF_ok HQ.out.2.ok HQ.out.2.names hfg hg), HQ.out.1.trans (hu.or (fun k e => .inr (.inr (by rw [← hbl]; exact List.mem_map.2 ⟨x, (flGet_mem hx).1, e.symm⟩)))), OnR.take_succ hkt ?_⟩
              rw [hnm]
              refine s6.step (fun y hy hyn => ?_)
              have hy2 : fget t2.files nm = some y.2 := by
                unfold fget
                have : t2.files.find? (fun x => decide (x.1 = nm)) = some y := by
                  obtain ⟨i, hi, rfl⟩ := List.mem_iff_getElem.1 hy
                  rw [List.find?_eq_some_iff_getElem]
                  refine ⟨by simpa using hyn, i, hi, rfl, fun j hj => ?_⟩
                  have := List.pairwise_iff_getElem.1 hat.names j i (by simp; omega) (by simpa using hi) hj
                  simp only [List.getElem_map] at this
                  simpa using fun h => this (h.trans hyn.symm)
                rw [this]; rfl
              rw [hfg] at hy2
              have hy3 : x.2.2 = y.2 := by simpa using hy2
              rw [← hy3]
              exact hg
            have HFIN := Lib.hid hfin
            obtain ⟨sg, hsg⟩ : ∃ sg, x.2.2.safe + g = sg := ⟨_, rfl⟩
            rw [hsg] at e3 hln HFIN
            clear hcf hcu hfin hfq d0 d1 g0 hg hsg
            go_wp2
            go_roundg (ks.length - (k + 1))
            case measure => omega
            case rel =>
              obtain ⟨z1, z2, z3⟩ := HFIN.out _ rfl
              obtain ⟨hat, hbl, ⟨s1, s2, s3, s4, s5, s6⟩, -⟩ := HAT.out
              exact ⟨k + 1, n + 1, updL L2 nm (onF g), _, by omega, rfl, by go_num, by go_num, by omega, z1, by rw [updL_blocks]; exact hbl, ⟨s1, s2, s3, s4, s5, z3⟩, z2⟩
      · have j1 : ¬ (k : Int) < (ks.length : Int) := by omega
        have hfin : ∃ L' t', TpAt wr b mb L' t' ∧ tpBlocks L' = tpBlocks L ∧ OnTo t t' ∧ Upd (TpF b mb L) w wr := by
          obtain ⟨s1, s2, s3, s4, s5, s6⟩ := hsame
          rw [List.take_of_length_le (by omega)] at s6
          exact ⟨L2, t2, hat, hbl, ⟨s1, s2, s3, s4, s5, s6.done (fun x hx => (HM.out x.1).2 (List.mem_map.2 ⟨x, hx, rfl⟩))⟩, HU2.out.2.trans hut⟩
        have HFIN := Lib.hid hfin
        clear hat hbl hsame hut hfin
        go_wp2
        first | go_end0 | (refine bodyPost_ret (results_none rfl _ _ _) rfl ?_)
        obtain ⟨L', t', a1, a2, a3, a4⟩ := HFIN.out
        exact ⟨rfl, L', t', a1, a2, by rw [HO0.out]; simpa using a3, a4⟩
end Go.Proofs.YtcpaaleogmiamaaGreatDoor
