/- The walk of flock.Decide. -/
import Derived.Test.YtdchjepahgecgaaGreatDoorMq15
import Derived.Test.YtdchjepahgecgaaGreatDoorMq26
import Derived.Test.YtdchjepahgecgaaGreatDoorMq27
namespace Go.Proofs.YtdchjepahgecgaaGreatDoor
open Go.RowKit

/-- What flock.the answers, whether the group is there or not. -/
theorem the_F {w : World} {v : Value} {L : List Fk} (h : FksRd w v L) (hr : FkUp L) (hL : L.length ≤ 1000) (s : List UInt8) : Calls Tryz.prog 24 #[v, .string (bs s)] w fun e w' => Below w.heap.size w w' ∧ ∃ (ma : Option Addr) (mc : Nat) (pa : Option Addr) (pc : Nat),
    e = .returned (.tuple #[.agg #[.string (bs (theF L s).name), .int .i64 (theF L s).gen, .int .i64 (theF L s).parts, .slice ma (theF L s).members.length mc, .slice pa (theF L s).points.length pc], .bool (hasFk L s)]) ∧
    Strs w' (.slice ma (theF L s).members.length mc) (theF L s).members ∧ PtsRd w' (.slice pa (theF L s).points.length pc) (theF L s).points := by
  obtain ⟨m, hm, hrd, hf⟩ := h
  cases hb : hasFk L s with
  | false =>
    have ht : theF L s = ⟨s, 0, 0, [], []⟩ := by simp [theF, hb]
    rw [ht]
    refine (the_no hrd hf hm hr hL hb).mono ?_
    rintro e w' ⟨hb1, rfl⟩
    exact ⟨hb1, none, 0, none, 0, rfl, Strs.nil _, PtsRd.nil _⟩
  | true =>
    obtain ⟨hk, -⟩ := hasFk_at hr hb
    have hy : L[fkAt L s]? = some (L[fkAt L s]'hk) := List.getElem?_eq_getElem hk
    have ht : theF L s = L[fkAt L s]'hk := by simp only [theF, hb, if_true, List.getD, hy, Option.getD_some]
    rw [ht]
    refine (the_yes hrd hf hm hr hL hb rfl hy).mono ?_
    rintro e w' ⟨hb1, hkm, ma, mc, pa, pc, hmk, rfl⟩
    have hfv := (hf _ (List.getElem_mem hkm)).below hb1
    unfold FvRd at hfv
    rw [hmk] at hfv
    exact ⟨hb1, ma, mc, pa, pc, rfl, hfv.1, hfv.2⟩

def clampP (n : Int) : Int := min (max n 0) 4
/-- The record that a request brings. -/
def decideF (L : List Fk) (parts : Int) (q : Rq) : List UInt8 × List UInt8 :=
  if q.kind = 6 then commitP (theF L q.group) (hasFk L q.group) q
  else if (q.kind ≠ 3 ∧ q.kind ≠ 4) ∨ (nameB q.group && nameB q.member) = false then ([110], encNo 1)
  else if q.kind = 4 then
    (if hasStr (theF L q.group).members q.member = false then ([110], encNo 31)
     else (116 :: q.group, encTurn (IntKind.i64.wrap ((theF L q.group).gen + 1)) (clampP parts) ((theF L q.group).members.eraseIdx (strAt (theF L q.group).members q.member))))
  else if hasStr (theF L q.group).members q.member = true then ([110], encNo 0)
  else if 4 ≤ (theF L q.group).members.length ∨ (hasFk L q.group = false ∧ 4 ≤ L.length) then ([110], encNo 32)
  else (116 :: q.group, encTurn (IntKind.i64.wrap ((theF L q.group).gen + 1)) (clampP parts) ((theF L q.group).members.take (strAt (theF L q.group).members q.member) ++ q.member :: (theF L q.group).members.drop (strAt (theF L q.group).members q.member)))

theorem wrap_I64 (n : Int) : I64 (IntKind.i64.wrap n) := by
  rw [IntWalk.i64_left]
  unfold wrap64 I64
  omega

set_option maxRecDepth 100000 in
set_option maxHeartbeats 8000000 in
theorem decide_any {w : World} {v : Value} {L : List Fk} (h : FksRd w v L) (hr : FkUp L) (hL : L.length ≤ 1000) (q : Rq) (hgl : q.group.length ≤ 1000) (hml : q.member.length ≤ 1000) (parts : Int)
    (hfm : StrsUp (theF L q.group).members ∧ (theF L q.group).members.length ≤ 8 ∧ ∀ m ∈ (theF L q.group).members, m.length ≤ 1000) (hfg : I64 (theF L q.group).gen) (hE : Env w) :
    Calls Tryz.prog 14 #[v, .int .i64 parts, q.v] w (RecTo w (decideF L parts q).1 (decideF L parts q).2) := by
  obtain ⟨y, hy⟩ : ∃ y, theF L q.group = y := ⟨_, rfl⟩
  obtain ⟨is, his⟩ : ∃ is, hasFk L q.group = is := ⟨_, rfl⟩
  obtain ⟨R, hR⟩ : ∃ R, decideF L parts q = R := ⟨_, rfl⟩
  rw [hR]
  unfold decideF at hR
  rw [hy, his] at hR
  rw [hy] at hfm hfg
  obtain ⟨wa, hwa⟩ : ∃ wa, wa = (w.alloc q.box).alloc (.cells #[.int .i64 0, .string ⟨#[]⟩, .string ⟨#[]⟩, .bool false] 28) := ⟨_, rfl⟩
  have hb1 : Below w.heap.size w wa := by rw [hwa]; exact below_alloc2 _ _ _
  have hN0 : wa.heap[w.heap.size]? = some q.box := by rw [hwa, Below.heap_alloc _ _ _ (by simp)]; exact heap_alloc_new w _
  have hN1 : wa.heap[w.heap.size + 1]? = some (.cells #[.int .i64 0, .string ⟨#[]⟩, .string ⟨#[]⟩, .bool false] 28 (0, 0)) := by rw [hwa]; exact heap_new1 w _ _
  have hsz : wa.heap.size = w.heap.size + 2 := by rw [hwa]; simp
  have hthe := the_F (h.below hb1) hr hL q.group
  rw [hy, his] at hthe
  have x8 := cells_of hN0 8 _ rfl
  obtain ⟨a, cap, rfl, -, -, -⟩ := h.cells
  have HT := Lib.hid hthe
  have HN := Lib.hid (And.intro hN0 (And.intro hN1 (And.intro hb1 hsz)))
  have HR := Lib.hid hR
  have HE := Lib.hid hE
  clear h hthe hR hE hN0 hN1 hb1 hsz
  simp only [Rq.box] at hwa
  go_enter Tryz.func14, Tryz.ntmps14
  go_upto_region 1 with fail
  rw [← hwa]
  clear hwa
  go_upto_region 2 with (first | (go_at_call 24; refine HT.out.mono ?_; rintro _ w1 ⟨hb1, ma, mc, pa, pc, rfl, hst, hpt⟩))
  obtain ⟨wf, hwc⟩ : ∃ wf, wf = w1.alloc (.cells #[.string (bs y.name), .int .i64 y.gen, .int .i64 y.parts, .slice ma y.members.length mc, .slice pa y.points.length pc] 44) := ⟨_, rfl⟩
  have hF : wf.heap[w1.heap.size]? = some (.cells #[.string (bs y.name), .int .i64 y.gen, .int .i64 y.parts, .slice ma y.members.length mc, .slice pa y.points.length pc] 44 (0, 0)) := by rw [hwc]; exact heap_alloc_new _ _
  have hbc1 : Below w1.heap.size w1 wf := by rw [hwc]; exact below_alloc _ _
  have hsc : wf.heap.size = w1.heap.size + 1 := by rw [hwc]; simp
  rw [← hwc]
  clear hwc
  have hk : ∀ W, Below wf.heap.size wf W → (W.cell? ⟨w.heap.size, 2, none⟩ = some (.int .i64 q.kind) ∧ W.cell? ⟨w.heap.size, 8, none⟩ = some (.string (bs q.group)) ∧ W.cell? ⟨w.heap.size, 9, none⟩ = some (.string (bs q.member))) ∧
      (W.cell? ⟨w1.heap.size, 0, none⟩ = some (.string (bs y.name)) ∧ W.cell? ⟨w1.heap.size, 1, none⟩ = some (.int .i64 y.gen) ∧ W.cell? ⟨w1.heap.size, 2, none⟩ = some (.int .i64 y.parts) ∧ W.cell? ⟨w1.heap.size, 3, none⟩ = some (.slice ma y.members.length mc) ∧ W.cell? ⟨w1.heap.size, 4, none⟩ = some (.slice pa y.points.length pc)) ∧
      (W.heap[w.heap.size + 1]? = some (.cells #[.int .i64 0, .string ⟨#[]⟩, .string ⟨#[]⟩, .bool false] 28 (0, 0)) ∧ W.heap[w.heap.size]? = some q.box) ∧ Strs W (.slice ma y.members.length mc) y.members ∧ Below w.heap.size w W := by
    intro W hb
    obtain ⟨hN0, hN1, hb0, hsz⟩ := HN.out
    have hs1 := hb1.size
    have hbW : Below wa.heap.size wa W := hb1.trans ((hbc1.trans (hb.mono (by omega))).mono hs1)
    have b0 := (hbW.block w.heap.size (by omega)).trans hN0
    have b1 := (hb.block w1.heap.size (by omega)).trans hF
    exact ⟨⟨cells_of b0 2 _ rfl, cells_of b0 8 _ rfl, cells_of b0 9 _ rfl⟩, ⟨cells_of b1 0 _ rfl, cells_of b1 1 _ rfl, cells_of b1 2 _ rfl, cells_of b1 3 _ rfl, cells_of b1 4 _ rfl⟩, ⟨(hbW.block (w.heap.size + 1) (by omega)).trans hN1, b0⟩, hst.below (hbc1.trans (hb.mono (by omega))), hb0.trans (hbW.mono (by omega))⟩
  have HK := Lib.hid hk
  obtain ⟨⟨y2, y8, y9⟩, ⟨z0, z1, z2, z3, z4⟩, -, hstc, -⟩ := hk wf (Below.refl _ _)
  have HBS := Lib.hid (BSStr_any hstc hfm.1 (by omega) q.member)
  obtain ⟨i, hi⟩ : ∃ i, strAt y.members q.member = i := ⟨_, rfl⟩
  obtain ⟨mem, hmem⟩ : ∃ mem, hasStr y.members q.member = mem := ⟨_, rfl⟩
  rw [hi, hmem] at HBS
  obtain ⟨b1, hb1'⟩ : ∃ b1, nameB q.group = b1 := ⟨_, rfl⟩
  obtain ⟨b2, hb2'⟩ : ∃ b2, nameB q.member = b2 := ⟨_, rfl⟩
  have hn1 : ∀ W, Calls Tryz.prog 32 #[.string (bs q.group)] W fun e w' => e = .returned (.bool b1) ∧ Below W.heap.size W w' := fun W => by rw [← hb1']; exact FisName_any _ W
  have hn2 : ∀ W, Calls Tryz.prog 32 #[.string (bs q.member)] W fun e w' => e = .returned (.bool b2) ∧ Below W.heap.size W w' := fun W => by rw [← hb2']; exact FisName_any _ W
  rw [hi, hmem, hb1', hb2'] at HR
  have HN1 := Lib.hid hn1
  have HN2 := Lib.hid hn2
  have HI := Lib.hid (And.intro hi hmem)
  have hne0 : w.heap.size + 2 ≤ w1.heap.size := by have h1 := hb1.size; have h2 := HN.out.2.2.2; omega
  have hne1 : ¬ w.heap.size + 1 = w1.heap.size := by omega
  have hne2 : ¬ w1.heap.size = w.heap.size + 1 := by omega
  clear hk hst hpt hF hbc1 hsc hstc hn1 hn2 hb1' hb2' hi hmem hy his x8 hb1 HN HT
  go_upto_region 3 with (first | (go_at_call 31; refine HBS.out.mono ?_; rintro _ w2 ⟨rfl, hw2⟩; rw [hw2]; clear hw2))
  go_cut [11] from 27 to 34 (fun v wx => v = .bool (b1 && b2) ∧ Below wf.heap.size wf wx)
  case first =>
    cases b1 with
    | false =>
      go_wp2_with (first | (go_at_call 32; with_reducible refine (HN1.out _).mono ?_; rintro _ w3 ⟨rfl, hb3⟩))
      go_meet
      exact ⟨rfl, hb3⟩
    | true =>
      go_wp2_with (first
        | (go_at_call 32; with_reducible refine (HN1.out _).mono ?_; rintro _ w3 ⟨rfl, hb3⟩; obtain ⟨⟨y2, y8, y9⟩, -, -, -, -⟩ := HK.out _ hb3; have H3 := Lib.hid hb3; clear hb3)
        | (go_at_call 32; with_reducible refine (HN2.out _).mono ?_; rintro _ w4 ⟨rfl, hb4⟩; have H4 := Lib.hid (H3.out.trans (hb4.mono H3.out.size)); clear hb4))
      go_meet
      exact ⟨rfl, H4.out⟩
  case rest =>
    obtain ⟨rfl, hbb⟩ := hcut
    have HB := Lib.hid hbb
    obtain ⟨⟨y2, y8, y9⟩, ⟨z0, z1, z2, z3, z4⟩, -, hstr, -⟩ := HK.out _ HB.out
    have hno : ∀ W c, I64 c → Below wf.heap.size wf W → Calls Tryz.prog 34 #[.int .i64 c] W fun e w' => e = .returned (.agg #[.int .i64 0, .string (bs [110]), .string (bs (encNo c)), .bool false]) ∧ Below wf.heap.size wf w' := fun W c hc hb =>
      (no_any c hc (HE.out.below (HK.out W hb).2.2.2.2)).mono fun e w' ⟨h1, h2⟩ => ⟨h1, hb.trans (h2.mono hb.size)⟩
    have HNO := Lib.hid hno
    have HST := Lib.hid hstr
    clear hno hbb hstr HN1 HN2 HBS
    generalize (b1 && b2) = nn at *
    by_cases k6 : q.kind = 6
    · have hRR : R = commitP y is q := by rw [← HR.out, if_pos k6]
      have hcm := commit_any (pa := pa) (pl := y.points.length) (pc := pc) HST.out is q hfg (by omega) (HE.out.below (HK.out _ HB.out).2.2.2.2)
      rw [← hRR] at hcm
      simp only [Rq.v, k6] at hcm
      have HCM := Lib.hid hcm
      have q0 := cells_of (HK.out _ HB.out).2.2.1.2 0 _ rfl
      have q1 := cells_of (HK.out _ HB.out).2.2.1.2 1 _ rfl
      have q2 : wc.cell? ⟨w.heap.size, 2, none⟩ = some (.int .i64 6) := by have := y2; rw [k6] at this; exact this
      have q3 := cells_of (HK.out _ HB.out).2.2.1.2 3 _ rfl
      have q4 := cells_of (HK.out _ HB.out).2.2.1.2 4 _ rfl
      have q5 := cells_of (HK.out _ HB.out).2.2.1.2 5 _ rfl
      have q6 := cells_of (HK.out _ HB.out).2.2.1.2 6 _ rfl
      have q7 := cells_of (HK.out _ HB.out).2.2.1.2 7 _ rfl
      have q8 := cells_of (HK.out _ HB.out).2.2.1.2 8 _ rfl
      have q9 := cells_of (HK.out _ HB.out).2.2.1.2 9 _ rfl
      have q10 := cells_of (HK.out _ HB.out).2.2.1.2 10 _ rfl
      rw [k6] at y2
      clear hRR hcm
      go_upto_block 0 with fail
      go_wp2_with (first | (go_at_call 33; refine HCM.out.mono ?_; rintro _ w5 ⟨rfl, hb5'⟩; have hb5 := HB.out.trans (hb5'.mono HB.out.size); have hk5 := (HK.out _ hb5).2.2.1.1; have r0 := cells_of hk5 0 _ rfl; have r1 := cells_of hk5 1 _ rfl; have r2 := cells_of hk5 2 _ rfl; have r3 := cells_of hk5 3 _ rfl; have f0 := frozen_of (j := 0) hk5; have f1 := frozen_of (j := 1) hk5; have f2 := frozen_of (j := 2) hk5; have f3 := frozen_of (j := 3) hk5; have H5 := Lib.hid (And.intro hk5 (HK.out _ hb5).2.2.2.2); clear hk5 hb5 hb5'))
      try simp only [Exit.inBlock, Exit.then]
      obtain ⟨hz, hu⟩ := set4 H5.out.1 (.int .i64 0) (.string (bs R.1)) (.string (bs R.2)) (.bool false)
      have s0 := cells_of hz 0 _ rfl
      have s1 := cells_of hz 1 _ rfl
      have s2 := cells_of hz 2 _ rfl
      have s3 := cells_of hz 3 _ rfl
      exact bodyPost_ret (v := .agg #[.int .i64 0, .string (bs R.1), .string (bs R.2), .bool false]) (by simp [results, Tryz.results14, go_sem, s0, s1, s2, s3]) rfl ⟨rfl, H5.out.2.trans (hu.toBelow H5.out.2.size (fun k e => by omega))⟩
    · rw [if_neg k6] at HR
      have hcl : ∀ W, Below wf.heap.size wf W → Calls Tryz.prog 37 #[.slice ma y.members.length mc] W fun e w' => ∃ (ca : Option Addr) (cc : Nat), e = .returned (.slice ca y.members.length cc) ∧ w'.ownsRow W.heap.size 9 1 (.slice ca y.members.length cc) y.members.length (strCells y.members) ∧ Below W.heap.size W w' ∧ Below wf.heap.size wf w' := fun W hb => by
        refine (CloneStrs_any (HK.out W hb).2.2.2.1 (oneStrs _) (by have := hfm.2.1; omega)).mono ?_
        rintro e w' ⟨v', rfl, ho, hb'⟩
        obtain ⟨ca, cc, rfl, -⟩ := (Sl.of_owns ho).shape
        exact ⟨ca, cc, rfl, ho, hb', hb.trans (hb'.mono hb.size)⟩
      obtain ⟨G, hG⟩ : ∃ G, IntKind.i64.wrap (y.gen + 1) = G := ⟨_, rfl⟩
      have hGI : I64 G := by rw [← hG]; exact wrap_I64 _
      have hG' : wrap64 (y.gen + 1) = G := by rw [← IntWalk.i64_left]; exact hG
      have hPI : I64 (clampP parts) := by unfold clampP I64; omega
      have htu : ∀ W v (ms : List (List UInt8)), Strs W v ms → ms.length ≤ 10 → (∀ m ∈ ms, m.length ≤ 1000) → Below wf.heap.size wf W → Calls Tryz.prog 35 #[.string (bs q.group), .int .i64 G, .int .i64 (min (max parts 0) 4), v] W fun e w' => e = .returned (.agg #[.int .i64 0, .string (bs (116 :: q.group)), .string (bs (encTurn G (clampP parts) ms)), .bool false]) ∧ Below wf.heap.size wf w' := fun W v ms hs h1 h2 hb =>
        (turn_any hs h1 h2 q.group (by omega) G (clampP parts) hGI hPI (HE.out.below (HK.out W hb).2.2.2.2)).mono fun e w' ⟨e1, e2⟩ => ⟨e1, hb.trans (e2.mono hb.size)⟩
      have hsp : ∀ W, Below wf.heap.size wf W → W.cell? ⟨w.heap.size, 8, none⟩ = some (.string (bs q.group)) ∧ W.cell? ⟨w.heap.size, 9, none⟩ = some (.string (bs q.member)) ∧ W.cell? ⟨w1.heap.size, 1, none⟩ = some (.int .i64 y.gen) ∧ W.cell? ⟨w1.heap.size, 3, none⟩ = some (.slice ma y.members.length mc) := fun W hb => by
        obtain ⟨⟨-, a8, a9⟩, ⟨-, c1, -, c3, -⟩, -, -, -⟩ := HK.out W hb
        exact ⟨a8, a9, c1, c3⟩
      have HCL := Lib.hid hcl
      have HTU := Lib.hid htu
      have HSP := Lib.hid hsp
      rw [hG] at HR
      clear hcl htu hsp hGI hPI
      by_cases k3 : q.kind = 3
      · rw [k3] at HR y2
        cases nn with
        | false =>
          have hRR : R = ([110], encNo 1) := by rw [← HR.out]; simp
          have HRR := Lib.hid hRR
          clear hRR
          go_wp2_with (first | (go_at_call 34; with_reducible refine (HNO.out _ 1 (by unfold I64; omega) HB.out).mono ?_; rintro _ w5 ⟨rfl, hb5⟩; have hk5 := (HK.out _ hb5).2.2.1.1; have r0 := cells_of hk5 0 _ rfl; have r1 := cells_of hk5 1 _ rfl; have r2 := cells_of hk5 2 _ rfl; have r3 := cells_of hk5 3 _ rfl; have f0 := frozen_of (j := 0) hk5; have f1 := frozen_of (j := 1) hk5; have f2 := frozen_of (j := 2) hk5; have f3 := frozen_of (j := 3) hk5; have H5 := Lib.hid (And.intro hk5 (HK.out _ hb5).2.2.2.2); clear hk5 hb5))
          try simp only [Exit.inBlock, Exit.then]
          obtain ⟨hz, hu⟩ := set4 H5.out.1 (.int .i64 0) (.string (bs [110])) (.string (bs (encNo 1))) (.bool false)
          have s0 := cells_of hz 0 _ rfl
          have s1 := cells_of hz 1 _ rfl
          have s2 := cells_of hz 2 _ rfl
          have s3 := cells_of hz 3 _ rfl
          exact bodyPost_ret (v := .agg #[.int .i64 0, .string (bs [110]), .string (bs (encNo 1)), .bool false]) (by simp [results, Tryz.results14, go_sem, s0, s1, s2, s3]) rfl ⟨by rw [HRR.out], H5.out.2.trans (hu.toBelow H5.out.2.size (fun k e => by omega))⟩
        | true =>
          simp only [Bool.true_eq_false, or_false, ne_eq, not_true_eq_false, false_and, if_false, show ¬ ((3 : Int) = 4) by decide] at HR
          cases mem with
          | true =>
            have hRR : R = ([110], encNo 0) := by rw [← HR.out]; simp
            have HRR := Lib.hid hRR
            clear hRR
            go_wp2_with (first | (go_at_call 34; with_reducible refine (HNO.out _ 0 (by unfold I64; omega) HB.out).mono ?_; rintro _ w5 ⟨rfl, hb5⟩; have hk5 := (HK.out _ hb5).2.2.1.1; have r0 := cells_of hk5 0 _ rfl; have r1 := cells_of hk5 1 _ rfl; have r2 := cells_of hk5 2 _ rfl; have r3 := cells_of hk5 3 _ rfl; have f0 := frozen_of (j := 0) hk5; have f1 := frozen_of (j := 1) hk5; have f2 := frozen_of (j := 2) hk5; have f3 := frozen_of (j := 3) hk5; have H5 := Lib.hid (And.intro hk5 (HK.out _ hb5).2.2.2.2); clear hk5 hb5))
            try simp only [Exit.inBlock, Exit.then]
            obtain ⟨hz, hu⟩ := set4 H5.out.1 (.int .i64 0) (.string (bs [110])) (.string (bs (encNo 0))) (.bool false)
            have s0 := cells_of hz 0 _ rfl
            have s1 := cells_of hz 1 _ rfl
            have s2 := cells_of hz 2 _ rfl
            have s3 := cells_of hz 3 _ rfl
            exact bodyPost_ret (v := .agg #[.int .i64 0, .string (bs [110]), .string (bs (encNo 0)), .bool false]) (by simp [results, Tryz.results14, go_sem, s0, s1, s2, s3]) rfl ⟨by rw [HRR.out], H5.out.2.trans (hu.toBelow H5.out.2.size (fun k e => by omega))⟩
          | false =>
            simp only [Bool.false_eq_true, if_false] at HR
            by_cases l4 : 4 ≤ y.members.length
            · have l4' : (4 : Int) ≤ (y.members.length : Int) := by omega
              have hRR : R = ([110], encNo 32) := by rw [← HR.out]; simp [l4]
              have HRR := Lib.hid hRR
              clear hRR
              go_wp2_with (first | (go_at_call 34; with_reducible refine (HNO.out _ 32 (by unfold I64; omega) HB.out).mono ?_; rintro _ w5 ⟨rfl, hb5⟩; have hk5 := (HK.out _ hb5).2.2.1.1; have r0 := cells_of hk5 0 _ rfl; have r1 := cells_of hk5 1 _ rfl; have r2 := cells_of hk5 2 _ rfl; have r3 := cells_of hk5 3 _ rfl; have f0 := frozen_of (j := 0) hk5; have f1 := frozen_of (j := 1) hk5; have f2 := frozen_of (j := 2) hk5; have f3 := frozen_of (j := 3) hk5; have H5 := Lib.hid (And.intro hk5 (HK.out _ hb5).2.2.2.2); clear hk5 hb5))
              try simp only [Exit.inBlock, Exit.then]
              obtain ⟨hz, hu⟩ := set4 H5.out.1 (.int .i64 0) (.string (bs [110])) (.string (bs (encNo 32))) (.bool false)
              have s0 := cells_of hz 0 _ rfl
              have s1 := cells_of hz 1 _ rfl
              have s2 := cells_of hz 2 _ rfl
              have s3 := cells_of hz 3 _ rfl
              exact bodyPost_ret (v := .agg #[.int .i64 0, .string (bs [110]), .string (bs (encNo 32)), .bool false]) (by simp [results, Tryz.results14, go_sem, s0, s1, s2, s3]) rfl ⟨by rw [HRR.out], H5.out.2.trans (hu.toBelow H5.out.2.size (fun k e => by omega))⟩
            · have l4' : ¬ (4 : Int) ≤ (y.members.length : Int) := by omega
              cases is with
              | true =>
                have hRR : R = (116 :: q.group, encTurn G (clampP parts) (y.members.take i ++ q.member :: y.members.drop i)) := by rw [← HR.out]; simp [l4]
                have HRR := Lib.hid hRR
                have hile : i ≤ y.members.length := by rw [← HI.out.1]; exact posK_le (fun x => x) y.members q.member
                have hml2 : (y.members.take i ++ q.member :: y.members.drop i).length = y.members.length + 1 := by simp; omega
                have hin : ∀ W ca cc vb, W.ownsRow wf.heap.size 9 1 (.slice ca y.members.length cc) y.members.length (strCells y.members) → W.heap[vb]? = some (.cells #[.string (bs q.member)] 9 (0, 0)) → (∀ g, (Value.slice ca y.members.length cc).ownBlock = some g → vb ≠ g) → Below wf.heap.size wf W → Calls Tryz.prog 38 #[.slice ca y.members.length cc, .int .i64 i, .slice (some ⟨vb, 0, none⟩) 1 1] W fun e w' => ∃ (la : Option Addr) (lc : Nat), e = .returned (.slice la (y.members.length + 1) lc) ∧ Strs w' (.slice la (y.members.length + 1) lc) (y.members.take i ++ q.member :: y.members.drop i) ∧ Below wf.heap.size wf w' := fun W ca cc vb ho hv hvg hb => by
                  refine (InsertSt_any ho rfl hb.size (by have := hfm.2.1; omega) (oneStrs _) (by simp [Value.oneCell']) hv hvg hile).mono ?_
                  rintro e w' ⟨la, lc, rfl, ho', hu, -⟩
                  refine ⟨la, lc, rfl, ?_, hb.trans (hu.toBelow hb.size (fun k e => (owns_lt ho k e.symm).1))⟩
                  exact Strs.of_owns (N := wf.heap.size) (e := 9) (v := .slice la (y.members.length + 1) lc) (l := y.members.take i ++ q.member :: y.members.drop i) (by rw [hml2]; exact ho')
                have hle : (y.members.take i ++ q.member :: y.members.drop i).length ≤ 10 := by rw [hml2]; have := hfm.2.1; omega
                have hme : ∀ m ∈ y.members.take i ++ q.member :: y.members.drop i, m.length ≤ 1000 := fun m hm => by
                  rcases List.mem_append.1 hm with h | h
                  · exact hfm.2.2 m (List.mem_of_mem_take h)
                  · rcases List.mem_cons.1 h with h | h
                    · rw [h]; exact hml
                    · exact hfm.2.2 m (List.mem_of_mem_drop h)
                have HIN := Lib.hid hin
                have HME := Lib.hid (And.intro hle hme)
                have i0 : (0 : Int) ≤ (i : Int) := by omega
                have hbb := HB.out
                clear hRR hin hle hme hml2 hile
                go_upto_region 19 with fail
                go_region_held3 (fun W' => W'.cell? ⟨w.heap.size, 8, none⟩ = some (.string (bs q.group)) ∧ W'.cell? ⟨w.heap.size, 9, none⟩ = some (.string (bs q.member)) ∧ W'.cell? ⟨w1.heap.size, 1, none⟩ = some (.int .i64 y.gen) ∧ W'.cell? ⟨w1.heap.size, 3, none⟩ = some (.slice ma y.members.length mc))
                  (first | exact HSP.out _ (hbb.trans ((Below.refl _ _).drew.mono hbb.size)) | (have hg := hb5; first | exact HSP.out _ hg | go_keep) | (have hg := hb4; exact HSP.out _ hg) | (have hg := hb3; first | exact HSP.out _ hg | exact HSP.out _ (hg.alloc hg.size _)) | exact HSP.out _ ((hbb.trans ((Below.refl _ _).drew.mono hbb.size)).alloc (by exact hbb.size) _))
                  (first
                    | (go_at_call 37; refine (HCL.out _ (hbb.trans ((Below.refl _ _).drew.mono hbb.size))).mono ?_; rintro e w3 ⟨ca, cc, rfl, ho3, -, hb3⟩; have ho3' := owns_mono ho3 (show wf.heap.size ≤ _ from hbb.size); have hv3 := heap_alloc_new w3 (.cells #[.string (bs q.member)] 9); have hvg3 : ∀ g, (Value.slice ca y.members.length cc).ownBlock = some g → w3.heap.size ≠ g := (fun g hg e => by have := (owns_lt ho3 g hg).2; omega); have ho3i := ho3'.alloc (.cells #[.string (bs q.member)] 9); have hb3i := hb3.alloc hb3.size (.cells #[.string (bs q.member)] 9))
                    | (go_at_call 37; refine (HCL.out _ ((hbb.trans ((Below.refl _ _).drew.mono hbb.size)).alloc (by exact hbb.size) _)).mono ?_; rintro e w3 ⟨ca, cc, rfl, ho3, hbs3, hb3⟩; have ho3i := owns_mono ho3 (show wf.heap.size ≤ _ from (by have := hbb.size; simp only [World.size_alloc, World.size_drew]; omega)); have hv3 := (hbs3.block wc.heap.size (by simp)).trans (heap_alloc_new wc.drew (.cells #[.string (bs q.member)] 9)); have hvg3 : ∀ g, (Value.slice ca y.members.length cc).ownBlock = some g → wc.heap.size ≠ g := (fun g hg e => by have := (owns_lt ho3 g hg).1; simp only [World.size_alloc, World.size_drew] at this; omega); have hb3i := hb3)
                    | (go_at_call 38; refine (HIN.out _ _ _ _ ho3i hv3 hvg3 hb3i).mono ?_; rintro e w4 ⟨la, lc, rfl, hs4, hb4⟩)
                    | (go_at_call 35; refine (HTU.out _ _ _ hs4 HME.out.1 HME.out.2 hb4).mono ?_; rintro e w5 ⟨rfl, hb5⟩; have hk5 := (HK.out _ hb5).2.2.1.1; have r0 := cells_of hk5 0 _ rfl; have r1 := cells_of hk5 1 _ rfl; have r2 := cells_of hk5 2 _ rfl; have r3 := cells_of hk5 3 _ rfl; have f0 := frozen_of (j := 0) hk5; have f1 := frozen_of (j := 1) hk5; have f2 := frozen_of (j := 2) hk5; have f3 := frozen_of (j := 3) hk5; have H5 := Lib.hid (And.intro hk5 (HK.out _ hb5).2.2.2.2); clear hk5))
                all_goals
                  have h6 : w5.heap[w.heap.size + 1]? = some (.cells #[.int .i64 0, .string ⟨#[]⟩, .string ⟨#[]⟩, .bool false] 28 (0, 0)) := H5.out.1
                  obtain ⟨hz, hu⟩ := set4 h6 (.int .i64 0) (.string (bs (116 :: q.group))) (.string (bs (encTurn G (clampP parts) (y.members.take i ++ q.member :: y.members.drop i)))) (.bool false)
                  have s0 := cells_of hz 0 _ rfl
                  have s1 := cells_of hz 1 _ rfl
                  have s2 := cells_of hz 2 _ rfl
                  have s3 := cells_of hz 3 _ rfl
                  have HZ := Lib.hid (And.intro s0 (And.intro s1 (And.intro s2 (And.intro s3 (H5.out.2.trans (hu.toBelow H5.out.2.size (fun k e => by omega)))))))
                  clear hz hu s0 s1 s2 s3
                  go_wp2
                  try simp only [Exit.inBlock, Exit.then]
                  obtain ⟨s0, s1, s2, s3, hbz⟩ := HZ.out
                  exact bodyPost_ret (v := .agg #[.int .i64 0, .string (bs (116 :: q.group)), .string (bs (encTurn G (clampP parts) (y.members.take i ++ q.member :: y.members.drop i))), .bool false]) (by simp [results, Tryz.results14, go_sem, s0, s1, s2, s3]) rfl ⟨by rw [HRR.out], hbz⟩
              | false =>
                by_cases l5 : 4 ≤ L.length
                · have l5' : (4 : Int) ≤ (L.length : Int) := by omega
                  have hRR : R = ([110], encNo 32) := by rw [← HR.out]; simp [l4, l5]
                  have HRR := Lib.hid hRR
                  clear hRR
                  go_wp2_with (first | (go_at_call 34; with_reducible refine (HNO.out _ 32 (by unfold I64; omega) HB.out).mono ?_; rintro _ w5 ⟨rfl, hb5⟩; have hk5 := (HK.out _ hb5).2.2.1.1; have r0 := cells_of hk5 0 _ rfl; have r1 := cells_of hk5 1 _ rfl; have r2 := cells_of hk5 2 _ rfl; have r3 := cells_of hk5 3 _ rfl; have f0 := frozen_of (j := 0) hk5; have f1 := frozen_of (j := 1) hk5; have f2 := frozen_of (j := 2) hk5; have f3 := frozen_of (j := 3) hk5; have H5 := Lib.hid (And.intro hk5 (HK.out _ hb5).2.2.2.2); clear hk5 hb5))
                  try simp only [Exit.inBlock, Exit.then]
                  obtain ⟨hz, hu⟩ := set4 H5.out.1 (.int .i64 0) (.string (bs [110])) (.string (bs (encNo 32))) (.bool false)
                  have s0 := cells_of hz 0 _ rfl
                  have s1 := cells_of hz 1 _ rfl
                  have s2 := cells_of hz 2 _ rfl
                  have s3 := cells_of hz 3 _ rfl
                  exact bodyPost_ret (v := .agg #[.int .i64 0, .string (bs [110]), .string (bs (encNo 32)), .bool false]) (by simp [results, Tryz.results14, go_sem, s0, s1, s2, s3]) rfl ⟨by rw [HRR.out], H5.out.2.trans (hu.toBelow H5.out.2.size (fun k e => by omega))⟩
                · have l5' : ¬ (4 : Int) ≤ (L.length : Int) := by omega
                  have hRR : R = (116 :: q.group, encTurn G (clampP parts) (y.members.take i ++ q.member :: y.members.drop i)) := by rw [← HR.out]; simp [l4, l5]
                  have HRR := Lib.hid hRR
                  have hile : i ≤ y.members.length := by rw [← HI.out.1]; exact posK_le (fun x => x) y.members q.member
                  have hml2 : (y.members.take i ++ q.member :: y.members.drop i).length = y.members.length + 1 := by simp; omega
                  have hin : ∀ W ca cc vb, W.ownsRow wf.heap.size 9 1 (.slice ca y.members.length cc) y.members.length (strCells y.members) → W.heap[vb]? = some (.cells #[.string (bs q.member)] 9 (0, 0)) → (∀ g, (Value.slice ca y.members.length cc).ownBlock = some g → vb ≠ g) → Below wf.heap.size wf W → Calls Tryz.prog 38 #[.slice ca y.members.length cc, .int .i64 i, .slice (some ⟨vb, 0, none⟩) 1 1] W fun e w' => ∃ (la : Option Addr) (lc : Nat), e = .returned (.slice la (y.members.length + 1) lc) ∧ Strs w' (.slice la (y.members.length + 1) lc) (y.members.take i ++ q.member :: y.members.drop i) ∧ Below wf.heap.size wf w' := fun W ca cc vb ho hv hvg hb => by
                    refine (InsertSt_any ho rfl hb.size (by have := hfm.2.1; omega) (oneStrs _) (by simp [Value.oneCell']) hv hvg hile).mono ?_
                    rintro e w' ⟨la, lc, rfl, ho', hu, -⟩
                    refine ⟨la, lc, rfl, ?_, hb.trans (hu.toBelow hb.size (fun k e => (owns_lt ho k e.symm).1))⟩
                    exact Strs.of_owns (N := wf.heap.size) (e := 9) (v := .slice la (y.members.length + 1) lc) (l := y.members.take i ++ q.member :: y.members.drop i) (by rw [hml2]; exact ho')
                  have hle : (y.members.take i ++ q.member :: y.members.drop i).length ≤ 10 := by rw [hml2]; have := hfm.2.1; omega
                  have hme : ∀ m ∈ y.members.take i ++ q.member :: y.members.drop i, m.length ≤ 1000 := fun m hm => by
                    rcases List.mem_append.1 hm with h | h
                    · exact hfm.2.2 m (List.mem_of_mem_take h)
                    · rcases List.mem_cons.1 h with h | h
                      · rw [h]; exact hml
                      · exact hfm.2.2 m (List.mem_of_mem_drop h)
                  have HIN := Lib.hid hin
                  have HME := Lib.hid (And.intro hle hme)
                  have i0 : (0 : Int) ≤ (i : Int) := by omega
                  have hbb := HB.out
                  clear hRR hin hle hme hml2 hile
                  go_upto_region 19 with fail
                  go_region_held3 (fun W' => W'.cell? ⟨w.heap.size, 8, none⟩ = some (.string (bs q.group)) ∧ W'.cell? ⟨w.heap.size, 9, none⟩ = some (.string (bs q.member)) ∧ W'.cell? ⟨w1.heap.size, 1, none⟩ = some (.int .i64 y.gen) ∧ W'.cell? ⟨w1.heap.size, 3, none⟩ = some (.slice ma y.members.length mc))
                    (first | exact HSP.out _ (hbb.trans ((Below.refl _ _).drew.mono hbb.size)) | (have hg := hb5; first | exact HSP.out _ hg | go_keep) | (have hg := hb4; exact HSP.out _ hg) | (have hg := hb3; first | exact HSP.out _ hg | exact HSP.out _ (hg.alloc hg.size _)) | exact HSP.out _ ((hbb.trans ((Below.refl _ _).drew.mono hbb.size)).alloc (by exact hbb.size) _))
                    (first
                      | (go_at_call 37; refine (HCL.out _ (hbb.trans ((Below.refl _ _).drew.mono hbb.size))).mono ?_; rintro e w3 ⟨ca, cc, rfl, ho3, -, hb3⟩; have ho3' := owns_mono ho3 (show wf.heap.size ≤ _ from hbb.size); have hv3 := heap_alloc_new w3 (.cells #[.string (bs q.member)] 9); have hvg3 : ∀ g, (Value.slice ca y.members.length cc).ownBlock = some g → w3.heap.size ≠ g := (fun g hg e => by have := (owns_lt ho3 g hg).2; omega); have ho3i := ho3'.alloc (.cells #[.string (bs q.member)] 9); have hb3i := hb3.alloc hb3.size (.cells #[.string (bs q.member)] 9))
                      | (go_at_call 37; refine (HCL.out _ ((hbb.trans ((Below.refl _ _).drew.mono hbb.size)).alloc (by exact hbb.size) _)).mono ?_; rintro e w3 ⟨ca, cc, rfl, ho3, hbs3, hb3⟩; have ho3i := owns_mono ho3 (show wf.heap.size ≤ _ from (by have := hbb.size; simp only [World.size_alloc, World.size_drew]; omega)); have hv3 := (hbs3.block wc.heap.size (by simp)).trans (heap_alloc_new wc.drew (.cells #[.string (bs q.member)] 9)); have hvg3 : ∀ g, (Value.slice ca y.members.length cc).ownBlock = some g → wc.heap.size ≠ g := (fun g hg e => by have := (owns_lt ho3 g hg).1; simp only [World.size_alloc, World.size_drew] at this; omega); have hb3i := hb3)
                      | (go_at_call 38; refine (HIN.out _ _ _ _ ho3i hv3 hvg3 hb3i).mono ?_; rintro e w4 ⟨la, lc, rfl, hs4, hb4⟩)
                      | (go_at_call 35; refine (HTU.out _ _ _ hs4 HME.out.1 HME.out.2 hb4).mono ?_; rintro e w5 ⟨rfl, hb5⟩; have hk5 := (HK.out _ hb5).2.2.1.1; have r0 := cells_of hk5 0 _ rfl; have r1 := cells_of hk5 1 _ rfl; have r2 := cells_of hk5 2 _ rfl; have r3 := cells_of hk5 3 _ rfl; have f0 := frozen_of (j := 0) hk5; have f1 := frozen_of (j := 1) hk5; have f2 := frozen_of (j := 2) hk5; have f3 := frozen_of (j := 3) hk5; have H5 := Lib.hid (And.intro hk5 (HK.out _ hb5).2.2.2.2); clear hk5))
                  all_goals
                    have h6 : w5.heap[w.heap.size + 1]? = some (.cells #[.int .i64 0, .string ⟨#[]⟩, .string ⟨#[]⟩, .bool false] 28 (0, 0)) := H5.out.1
                    obtain ⟨hz, hu⟩ := set4 h6 (.int .i64 0) (.string (bs (116 :: q.group))) (.string (bs (encTurn G (clampP parts) (y.members.take i ++ q.member :: y.members.drop i)))) (.bool false)
                    have s0 := cells_of hz 0 _ rfl
                    have s1 := cells_of hz 1 _ rfl
                    have s2 := cells_of hz 2 _ rfl
                    have s3 := cells_of hz 3 _ rfl
                    have HZ := Lib.hid (And.intro s0 (And.intro s1 (And.intro s2 (And.intro s3 (H5.out.2.trans (hu.toBelow H5.out.2.size (fun k e => by omega)))))))
                    clear hz hu s0 s1 s2 s3
                    go_wp2
                    try simp only [Exit.inBlock, Exit.then]
                    obtain ⟨s0, s1, s2, s3, hbz⟩ := HZ.out
                    exact bodyPost_ret (v := .agg #[.int .i64 0, .string (bs (116 :: q.group)), .string (bs (encTurn G (clampP parts) (y.members.take i ++ q.member :: y.members.drop i))), .bool false]) (by simp [results, Tryz.results14, go_sem, s0, s1, s2, s3]) rfl ⟨by rw [HRR.out], hbz⟩
      · by_cases k4 : q.kind = 4
        · rw [k4] at HR y2
          cases nn with
          | false =>
            have hRR : R = ([110], encNo 1) := by rw [← HR.out]; simp
            have HRR := Lib.hid hRR
            clear hRR
            go_wp2_with (first | (go_at_call 34; with_reducible refine (HNO.out _ 1 (by unfold I64; omega) HB.out).mono ?_; rintro _ w5 ⟨rfl, hb5⟩; have hk5 := (HK.out _ hb5).2.2.1.1; have r0 := cells_of hk5 0 _ rfl; have r1 := cells_of hk5 1 _ rfl; have r2 := cells_of hk5 2 _ rfl; have r3 := cells_of hk5 3 _ rfl; have f0 := frozen_of (j := 0) hk5; have f1 := frozen_of (j := 1) hk5; have f2 := frozen_of (j := 2) hk5; have f3 := frozen_of (j := 3) hk5; have H5 := Lib.hid (And.intro hk5 (HK.out _ hb5).2.2.2.2); clear hk5 hb5))
            try simp only [Exit.inBlock, Exit.then]
            obtain ⟨hz, hu⟩ := set4 H5.out.1 (.int .i64 0) (.string (bs [110])) (.string (bs (encNo 1))) (.bool false)
            have s0 := cells_of hz 0 _ rfl
            have s1 := cells_of hz 1 _ rfl
            have s2 := cells_of hz 2 _ rfl
            have s3 := cells_of hz 3 _ rfl
            exact bodyPost_ret (v := .agg #[.int .i64 0, .string (bs [110]), .string (bs (encNo 1)), .bool false]) (by simp [results, Tryz.results14, go_sem, s0, s1, s2, s3]) rfl ⟨by rw [HRR.out], H5.out.2.trans (hu.toBelow H5.out.2.size (fun k e => by omega))⟩
          | true =>
            cases mem with
            | false =>
              have hRR : R = ([110], encNo 31) := by rw [← HR.out]; simp
              have HRR := Lib.hid hRR
              clear hRR
              go_wp2_with (first | (go_at_call 34; with_reducible refine (HNO.out _ 31 (by unfold I64; omega) HB.out).mono ?_; rintro _ w5 ⟨rfl, hb5⟩; have hk5 := (HK.out _ hb5).2.2.1.1; have r0 := cells_of hk5 0 _ rfl; have r1 := cells_of hk5 1 _ rfl; have r2 := cells_of hk5 2 _ rfl; have r3 := cells_of hk5 3 _ rfl; have f0 := frozen_of (j := 0) hk5; have f1 := frozen_of (j := 1) hk5; have f2 := frozen_of (j := 2) hk5; have f3 := frozen_of (j := 3) hk5; have H5 := Lib.hid (And.intro hk5 (HK.out _ hb5).2.2.2.2); clear hk5 hb5))
              try simp only [Exit.inBlock, Exit.then]
              obtain ⟨hz, hu⟩ := set4 H5.out.1 (.int .i64 0) (.string (bs [110])) (.string (bs (encNo 31))) (.bool false)
              have s0 := cells_of hz 0 _ rfl
              have s1 := cells_of hz 1 _ rfl
              have s2 := cells_of hz 2 _ rfl
              have s3 := cells_of hz 3 _ rfl
              exact bodyPost_ret (v := .agg #[.int .i64 0, .string (bs [110]), .string (bs (encNo 31)), .bool false]) (by simp [results, Tryz.results14, go_sem, s0, s1, s2, s3]) rfl ⟨by rw [HRR.out], H5.out.2.trans (hu.toBelow H5.out.2.size (fun k e => by omega))⟩
            | true =>
              have hRR : R = (116 :: q.group, encTurn G (clampP parts) (y.members.eraseIdx i)) := by rw [← HR.out]; simp
              have HRR := Lib.hid hRR
              have hil : i < y.members.length ∧ hasStr y.members q.member = true := by
                have h1 := HI.out.2
                have h2 := hasK_of (fun x => x) (s := q.member) txt_irrefl (fun _ _ _ => txt_trans) (posK_le (fun x => x) y.members q.member) hfm.1 (up_split (fun x => x) (fun _ _ _ => txt_trans) hfm.1 q.member).1 (up_split (fun x => x) (fun _ _ _ => txt_trans) hfm.1 q.member).2
                refine ⟨?_, h1⟩
                rw [← HI.out.1]
                rcases Nat.lt_or_ge (strAt y.members q.member) y.members.length with h | h
                · exact h
                · have hle : strAt y.members q.member ≤ y.members.length := posK_le (fun x => x) y.members q.member
                  have h3 := h2.2 (Nat.le_antisymm hle h)
                  have h4 : hasStr y.members q.member = false := h3
                  rw [h1] at h4; cases h4
              have hdl : ∀ W ca cc, W.ownsRow wf.heap.size 9 1 (.slice ca y.members.length cc) y.members.length (strCells y.members) → Below wf.heap.size wf W → Calls Tryz.prog 36 #[.slice ca y.members.length cc, .int .i64 i, .int .i64 ((i : Int) + 1)] W fun e w' => ∃ (g : Nat), e = .returned (.slice (some ⟨g, 0, none⟩) (y.members.length - 1) cc) ∧ Strs w' (.slice (some ⟨g, 0, none⟩) (y.members.length - 1) cc) (y.members.eraseIdx i) ∧ Below wf.heap.size wf w' := fun W ca cc ho hb => by
                obtain ⟨g, rfl⟩ : ∃ g, ca = some ⟨g, 0, none⟩ := by
                  rcases ho.2 with ⟨h1, h2⟩ | ⟨g, cap, cur, h1, -⟩
                  · omega
                  · simp only [Value.slice.injEq] at h1; exact ⟨g, h1.1⟩
                refine (DeleteStr_own ho i hil.1).mono ?_
                rintro e w' ⟨rfl, ho', hu⟩
                have hle : (y.members.eraseIdx i).length = y.members.length - 1 := by rw [List.length_eraseIdx, if_pos hil.1]
                refine ⟨g, rfl, ?_, hb.trans (hu.toBelow hb.size (fun k e => by have := (owns_lt ho g rfl).1; omega))⟩
                have h5 := Strs.of_owns (N := wf.heap.size) (e := 9) (v := .slice (some ⟨g, 0, none⟩) (y.members.length - 1) cc) (l := y.members.eraseIdx i) (by rw [hle]; exact ho')
                exact h5
              have hle : (y.members.eraseIdx i).length ≤ 10 := by rw [List.length_eraseIdx, if_pos hil.1]; omega
              have hme : ∀ m ∈ y.members.eraseIdx i, m.length ≤ 1000 := fun m hm => hfm.2.2 m (List.mem_of_mem_eraseIdx hm)
              have HDL := Lib.hid hdl
              have HME := Lib.hid (And.intro hle hme)
              have i0 : (0 : Int) ≤ (i : Int) := by omega
              have iw : IntKind.i64.wrap ((i : Int) + 1) = (i : Int) + 1 := IntWalk.i64_in _ (by have := hil.1; omega)
              have hbb := HB.out
              clear hRR hil hdl hle hme
              go_upto_region 13 with fail
              go_region_held3 (fun W' => W'.cell? ⟨w.heap.size, 8, none⟩ = some (.string (bs q.group)) ∧ W'.cell? ⟨w.heap.size, 9, none⟩ = some (.string (bs q.member)) ∧ W'.cell? ⟨w1.heap.size, 1, none⟩ = some (.int .i64 y.gen) ∧ W'.cell? ⟨w1.heap.size, 3, none⟩ = some (.slice ma y.members.length mc))
                (first | exact HSP.out _ (hbb.trans ((Below.refl _ _).drew.mono hbb.size)) | (have hg := hb5; first | exact HSP.out _ hg | go_keep) | (have hg := hb4; exact HSP.out _ hg) | (have hg := hb3; exact HSP.out _ hg))
                (first
                  | (go_at_call 37; refine (HCL.out _ (hbb.trans ((Below.refl _ _).drew.mono hbb.size))).mono ?_; rintro e w3 ⟨ca, cc, rfl, ho3, -, hb3⟩; have ho3' := owns_mono ho3 (show wf.heap.size ≤ _ from hbb.size))
                  | (go_at_call 36; refine (HDL.out _ _ _ ho3' hb3).mono ?_; rintro e w4 ⟨g, rfl, hs4, hb4⟩)
                  | (go_at_call 35; refine (HTU.out _ _ _ hs4 HME.out.1 HME.out.2 hb4).mono ?_; rintro e w5 ⟨rfl, hb5⟩; have hk5 := (HK.out _ hb5).2.2.1.1; have r0 := cells_of hk5 0 _ rfl; have r1 := cells_of hk5 1 _ rfl; have r2 := cells_of hk5 2 _ rfl; have r3 := cells_of hk5 3 _ rfl; have f0 := frozen_of (j := 0) hk5; have f1 := frozen_of (j := 1) hk5; have f2 := frozen_of (j := 2) hk5; have f3 := frozen_of (j := 3) hk5; have H5 := Lib.hid (And.intro hk5 (HK.out _ hb5).2.2.2.2); clear hk5))
              all_goals
                have h6 : w5.heap[w.heap.size + 1]? = some (.cells #[.int .i64 0, .string ⟨#[]⟩, .string ⟨#[]⟩, .bool false] 28 (0, 0)) := H5.out.1
                obtain ⟨hz, hu⟩ := set4 h6 (.int .i64 0) (.string (bs (116 :: q.group))) (.string (bs (encTurn G (clampP parts) (y.members.eraseIdx i)))) (.bool false)
                have s0 := cells_of hz 0 _ rfl
                have s1 := cells_of hz 1 _ rfl
                have s2 := cells_of hz 2 _ rfl
                have s3 := cells_of hz 3 _ rfl
                have HZ := Lib.hid (And.intro s0 (And.intro s1 (And.intro s2 (And.intro s3 (H5.out.2.trans (hu.toBelow H5.out.2.size (fun k e => by omega)))))))
                clear hz hu s0 s1 s2 s3
                go_wp2
                try simp only [Exit.inBlock, Exit.then]
                obtain ⟨s0, s1, s2, s3, hbz⟩ := HZ.out
                exact bodyPost_ret (v := .agg #[.int .i64 0, .string (bs (116 :: q.group)), .string (bs (encTurn G (clampP parts) (y.members.eraseIdx i))), .bool false]) (by simp [results, Tryz.results14, go_sem, s0, s1, s2, s3]) rfl ⟨by rw [HRR.out], hbz⟩
        · have k3b : (q.kind != 3) = true := by simpa using k3
          have k4b : (q.kind != 4) = true := by simpa using k4
          have k6b : (q.kind == 6) = false := by simpa using k6
          have hRR : R = ([110], encNo 1) := by rw [← HR.out]; simp [k3, k4]
          have HRR := Lib.hid hRR
          clear hRR
          go_wp2_with (first | (go_at_call 34; with_reducible refine (HNO.out _ 1 (by unfold I64; omega) HB.out).mono ?_; rintro _ w5 ⟨rfl, hb5⟩; have hk5 := (HK.out _ hb5).2.2.1.1; have r0 := cells_of hk5 0 _ rfl; have r1 := cells_of hk5 1 _ rfl; have r2 := cells_of hk5 2 _ rfl; have r3 := cells_of hk5 3 _ rfl; have f0 := frozen_of (j := 0) hk5; have f1 := frozen_of (j := 1) hk5; have f2 := frozen_of (j := 2) hk5; have f3 := frozen_of (j := 3) hk5; have H5 := Lib.hid (And.intro hk5 (HK.out _ hb5).2.2.2.2); clear hk5 hb5))
          try simp only [Exit.inBlock, Exit.then]
          obtain ⟨hz, hu⟩ := set4 H5.out.1 (.int .i64 0) (.string (bs [110])) (.string (bs (encNo 1))) (.bool false)
          have s0 := cells_of hz 0 _ rfl
          have s1 := cells_of hz 1 _ rfl
          have s2 := cells_of hz 2 _ rfl
          have s3 := cells_of hz 3 _ rfl
          exact bodyPost_ret (v := .agg #[.int .i64 0, .string (bs [110]), .string (bs (encNo 1)), .bool false]) (by simp [results, Tryz.results14, go_sem, s0, s1, s2, s3]) rfl ⟨by rw [HRR.out], H5.out.2.trans (hu.toBelow H5.out.2.size (fun k e => by omega))⟩
end Go.Proofs.YtdchjepahgecgaaGreatDoor
