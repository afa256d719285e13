/- The walk of helm.place. -/
import Derived.Test.YtcpaaleogmiamaaGreatDoorMh14
import Derived.Test.YtcpaaleogmiamaaGreatDoorMh23
import Derived.Test.YtcpaaleogmiamaaGreatDoorMh24
namespace Go.Proofs.YtcpaaleogmiamaaGreatDoor
open Go.RowKit

/-- A message that is nothing. -/
abbrev msg0 : Array Value := #[.int .i64 0, .int .i64 0, .int .i64 0, .int .i64 0, .int .i64 0, .int .i64 0, .int .i64 0, .int .i64 0, .int .i64 0, .slice none 0 0, .int .i64 0, .slice none 0 0,
  .int .i64 0, .int .i64 0, .int .i64 0, .int .i64 0, .int .i64 0, .slice none 0 0, .slice none 0 0, .int .i64 0, .int .i64 0, .int .i64 0, .int .i64 0, .int .i64 0, .int .i64 0, .int .i64 0, .int .i64 0, .string ⟨#[]⟩, .string ⟨#[]⟩, .slice none 0 0,
  .int .i64 0, .int .i64 0, .int .i64 0, .int .i64 0, .int .i64 0, .int .i64 0, .slice none 0 0, .slice none 0 0]

/-- A place, sent to a node. -/
abbrev placeM (i ep le nd : Int) (cv lvv : Value) : List Value := [.int .i64 4, .int .i64 0, .int .i64 nd, .int .i64 i, .int .i64 ep, .int .i64 0, .int .i64 0, .int .i64 0, .int .i64 ep, cv, .int .i64 le, lvv, .int .i64 0, .int .i64 0, .int .i64 0, .int .i64 0, .int .i64 0, .slice none 0 0, .slice none 0 0, .int .i64 0, .int .i64 0, .int .i64 0, .int .i64 0, .int .i64 0, .int .i64 0, .int .i64 0, .int .i64 0, .string ⟨#[]⟩, .string ⟨#[]⟩, .slice none 0 0, .int .i64 0, .int .i64 0, .int .i64 0, .int .i64 0, .int .i64 0, .int .i64 0, .slice none 0 0, .slice none 0 0]

theorem placeM_one (i ep le nd : Int) {cv lvv : Value} (h1 : cv.oneCell' = true) (h2 : lvv.oneCell' = true) : ∀ u ∈ placeM i ep le nd cv lvv, u.oneCell' = true := by
  intro u hu
  simp only [placeM, List.mem_cons, List.not_mem_nil, or_false] at hu
  rcases hu with rfl | rfl | rfl | rfl | rfl | rfl | rfl | rfl | rfl | rfl | rfl | rfl | rfl | rfl | rfl | rfl | rfl | rfl | rfl | rfl | rfl | rfl | rfl | rfl | rfl | rfl | rfl | rfl | rfl | rfl | rfl | rfl | rfl | rfl | rfl | rfl | rfl | rfl
  all_goals first | exact h1 | exact h2 | rfl

/-- What helm.place answers. -/
def PlacedTo (w : World) (p : Pl) (i : Nat) (hi : i < p.parts.length) (nd : Int) (e : Ending) (w' : World) : Prop :=
  ∃ (ca la : Option Addr) (cl cc lc : Nat), e = .returned (.agg (placeM (i : Int) p.parts[i].epoch p.parts[i].learner nd (.slice ca cl cc) (.slice la p.lives.length lc)).toArray) ∧ Below w.heap.size w w'

/-- A result that lies in a variable of its own. -/
theorem results_at {P : Program} {fn : Func} {s : Nat} {t : TypeId} {tmps : Array Value} {p : Addr} {v : Value} {w : World} (h : fn.results = #[.cell s t]) (hp : tmps.getD s undef = .pointer (some p)) (hl : (loadVar t p).run P w = .ok v w) :
    (results fn tmps).run P w = .ok v w := by
  have hp' : tmps[s]?.getD undef = .pointer (some p) := by simpa using hp
  simp [results, h, hp', asAddr, hl]

set_option maxRecDepth 100000 in
set_option maxHeartbeats 1000000 in
theorem Hplace_any {w : World} {hb b mb q : Nat} {L : TpL} {t : Tp} {v : Value} {p : Pl} {M : List (Int × Int)} {life : Int} {dead : Bool} (h : HmAt w hb b mb q L t v p M life dead) (hg : goodP p = true) (i : Nat) (hi : i < p.parts.length) (nd : Int) :
    Calls Tryz.prog 77 #[.pointer (some ⟨hb, 0, none⟩), .int .i64 (i : Int), .int .i64 nd] w (PlacedTo w p i hi nd) := by
  obtain ⟨hs, hc5, -⟩ := small_of_good hg
  have hL := hs.lives
  have hL4 := hs.parts
  obtain ⟨pv, lv, hv, c0, c1, c2, c3, c4, c5, c6, c7, fz⟩ := h.cells
  have hrd := h.plan.rd
  subst hv
  obtain ⟨pv', lv', e, hp, hl⟩ := hrd
  obtain ⟨rfl, rfl⟩ : pv = pv' ∧ lv = lv' := by simpa using e
  clear e
  obtain ⟨pa, pc, rfl, hpc, hpm, hC⟩ := hp.cells
  obtain ⟨b1, off, ca, cc, rfl, hb1, k0, k1, k2, hch⟩ := hC i hi
  have i0 : (0 : Int) ≤ (i : Int) := by omega
  have i1 : (i : Int) < (p.parts.length : Int) := by omega
  have hlt := h.apart.2.2.2.1
  have hchl : p.parts[i].chain.length ≤ 1000000 := by have := hs.chain _ (List.getElem_mem hi); omega
  have hpd : 0 = 0 := rfl
  obtain ⟨ep, hep⟩ : ∃ ep, p.parts[i].epoch = ep := ⟨_, rfl⟩
  obtain ⟨le, hle⟩ : ∃ le, p.parts[i].learner = le := ⟨_, rfl⟩
  obtain ⟨ch, hcc⟩ : ∃ ch, p.parts[i].chain = ch := ⟨_, rfl⟩
  rw [hep] at k0
  rw [hcc] at k1 hch hchl
  rw [hle] at k2
  have HC1 := Lib.hid (fun W (hb : Below w.heap.size w W) => CloneInts_any (hch.below hb) hchl)
  have HL1 := Lib.hid (fun W (hb : Below w.heap.size w W) => CloneLives_any (hl.below hb) (by omega))
  clear hC hp hch hl hL
  go_enter Tryz.func77, Tryz.ntmps77
  go_wp2_with fail
  refine (HC1.out _ (below_alloc2 _ _ _)).mono ?_
  rintro _ w1 ⟨nv, rfl, ho1, hb1'⟩
  obtain ⟨ca', cc', rfl⟩ : ∃ a c, nv = .slice a ch.length c := by obtain ⟨a, c, e, -⟩ := Rd.shape (IntsRd.of_owns ho1); exact ⟨a, c, e⟩
  have hbw : Below w.heap.size w w1 := below_trans (below_alloc2 _ _ _) hb1'
  have hm1 : w1.heap[w.heap.size]? = some (.cells msg0 47 (0, 0)) := (hb1'.block _ (by simp; omega)).trans (((below_alloc _ _).block _ (by simp)).trans (heap_alloc_new _ _))
  have hp1 : w1.heap[w.heap.size + 1]? = some (.cells #[.int .i64 ep, .slice ca ch.length cc, .int .i64 le] 36 (0, 0)) := (hb1'.block _ (by simp)).trans (heap_new1 _ _ _)
  have f1 : w1.frozen? ⟨w.heap.size + 1, 1, none⟩ = false := frozen_of hp1
  have g1 : w1.cell? ⟨w.heap.size + 1, 1, none⟩ = some (.slice ca ch.length cc) := cells_of hp1 1 _ rfl
  have HB := Lib.hid (And.intro hbw (And.intro hm1 hp1))
  clear hbw hm1 hp1 hb1' ho1
  go_upto_region 3 with fail
  obtain ⟨wf, hwf⟩ : ∃ wf, wf = w1.setCell ⟨w.heap.size + 1, 1, none⟩ (.slice ca' ch.length cc') := ⟨_, rfl⟩
  rw [← hwf]
  have hp2 : wf.heap[w.heap.size + 1]? = some (.cells #[.int .i64 ep, .slice ca' ch.length cc', .int .i64 le] 36 (0, 0)) := by rw [hwf]; exact setCell_same (o := 1) HB.out.2.2
  have hu2 : Upd (fun k => k = w.heap.size + 1) w1 wf := by rw [hwf]; exact upd_set1 _ _ _ _
  have hm2 : wf.heap[w.heap.size]? = some (.cells msg0 47 (0, 0)) := (hu2.block _ (Array.getElem?_eq_some_iff.1 HB.out.2.1).1 (by omega)).trans HB.out.2.1
  have hbw2 : Below w.heap.size w wf := HB.out.1.trans (hu2.toBelow HB.out.1.size (fun k e => by omega))
  have hh : ∀ W, Below wf.heap.size wf W → W.cell? ⟨w.heap.size + 1, 0, none⟩ = some (.int .i64 ep) ∧ W.cell? ⟨w.heap.size + 1, 1, none⟩ = some (.slice ca' ch.length cc') ∧ W.cell? ⟨w.heap.size + 1, 2, none⟩ = some (.int .i64 le) ∧ W.cell? ⟨hb, 4, none⟩ = some lv ∧ ∀ j, W.frozen? ⟨w.heap.size, j, none⟩ = false := by
    intro W hb'
    have z1 := (hb'.block _ (Array.getElem?_eq_some_iff.1 hp2).1).trans hp2
    have z2 := (hb'.block _ (Array.getElem?_eq_some_iff.1 hm2).1).trans hm2
    exact ⟨cells_of z1 0 _ rfl, cells_of z1 1 _ rfl, cells_of z1 2 _ rfl, by rw [(hbw2.trans (hb'.mono hbw2.size)).cell (p := ⟨hb, 4, none⟩) hlt]; exact c4, fun j => frozen_of z2⟩
  have HH := Lib.hid hh
  have hcl : ∀ W, Below wf.heap.size wf W → Calls Tryz.prog 71 #[lv] W fun e w' => ∃ la lc, e = .returned (.slice la p.lives.length lc) ∧ LivesRd w' (.slice la p.lives.length lc) p.lives ∧ Below wf.heap.size wf w' := by
    intro W hb'
    refine (HL1.out W (hbw2.trans (hb'.mono hbw2.size))).mono ?_
    rintro _ w' ⟨v', rfl, ho, hb2⟩
    obtain ⟨a, c, e, -⟩ := Rd.shape (LivesRd.of_owns ho)
    subst e
    exact ⟨a, c, rfl, LivesRd.of_owns ho, hb'.trans (hb2.mono hb'.size)⟩
  have HCL := Lib.hid hcl
  have HW := Lib.hid (And.intro hm2 (And.intro hp2 hbw2))
  obtain ⟨e0, e1, e2, e3, e4⟩ := HH.out wf (Below.refl _ _)
  clear hh hcl hm2 hp2 hbw2 hu2 hwf c4 f1 g1
  refine wp_region_held_drew (S := fun W' => W'.cell? ⟨w.heap.size + 1, 0, none⟩ = some (.int .i64 ep) ∧ W'.cell? ⟨w.heap.size + 1, 1, none⟩ = some (.slice ca' ch.length cc') ∧ W'.cell? ⟨w.heap.size + 1, 2, none⟩ = some (.int .i64 le) ∧ W'.cell? ⟨hb, 4, none⟩ = some lv ∧ ∀ j, W'.frozen? ⟨w.heap.size, j, none⟩ = false) (by kernel_rfl) (HH.out _ (Below.refl _ _).drew) (fun hHeld => ?_)
  refine wpAnyH_take (i := 0) (v := .int .i64 nd) rfl (by kernel_rfl) (by kernel_rfl) (by kernel_rfl) (fun _ _ _ h => h) (Or.inl ⟨by kernel_rfl, ?_⟩) (by assumption) ?_
  · intro w hSw
    try dsimp only at hSw
    go_simp
    try with_reducible rfl
  try simp only [Act.put, List.setIfInBounds_toArray, List.set_cons_zero, List.set_cons_succ, List.getElem_toArray, List.getElem_cons_zero]
  refine wpAnyH_take (i := 1) (v := .int .i64 (i : Int)) rfl (by kernel_rfl) (by kernel_rfl) (by kernel_rfl) (fun _ _ _ h => h) (Or.inl ⟨by kernel_rfl, ?_⟩) (by assumption) ?_
  · intro w hSw
    try dsimp only at hSw
    go_simp
    try with_reducible rfl
  try simp only [Act.put, List.setIfInBounds_toArray, List.set_cons_zero, List.set_cons_succ, List.getElem_toArray, List.getElem_cons_zero, List.getElem_cons_succ]
  refine wpAnyH_take (i := 2) (v := .pointer (some ⟨w.heap.size + 1, 0, none⟩)) rfl (by kernel_rfl) (by kernel_rfl) (by kernel_rfl) (fun _ _ _ h => h) (Or.inl ⟨by kernel_rfl, ?_⟩) (by assumption) ?_
  · intro w hSw
    try dsimp only at hSw
    go_simp
    try with_reducible rfl
  try simp only [Act.put, List.setIfInBounds_toArray, List.set_cons_zero, List.set_cons_succ, List.getElem_toArray, List.getElem_cons_zero, List.getElem_cons_succ]
  refine wpAnyH_take (i := 3) (v := .int .i64 ep) rfl (by kernel_rfl) (by kernel_rfl) (by kernel_rfl) (fun _ _ _ h => h) (Or.inl ⟨by kernel_rfl, ?_⟩) (by assumption) ?_
  · intro w hSw
    try dsimp only at hSw
    go_simp
    try with_reducible rfl
  try simp only [Act.put, List.setIfInBounds_toArray, List.set_cons_zero, List.set_cons_succ, List.getElem_toArray, List.getElem_cons_zero, List.getElem_cons_succ]
  refine wpAnyH_take (i := 4) (v := .agg #[.int .i64 ep, .slice ca' ch.length cc', .int .i64 le]) rfl (by kernel_rfl) (by kernel_rfl) (by kernel_rfl) (fun _ _ _ h => h) (Or.inl ⟨by kernel_rfl, ?_⟩) (by assumption) ?_
  · intro w hSw
    try dsimp only at hSw
    go_simp
    try with_reducible rfl
  try simp only [Act.put, List.setIfInBounds_toArray, List.set_cons_zero, List.set_cons_succ, List.getElem_toArray, List.getElem_cons_zero, List.getElem_cons_succ]
  refine wpAnyH_take (i := 5) (v := .pointer (some ⟨hb, 0, none⟩)) rfl (by kernel_rfl) (by kernel_rfl) (by kernel_rfl) (fun _ _ _ h => h) (Or.inl ⟨by kernel_rfl, ?_⟩) (by assumption) ?_
  · intro w hSw
    try dsimp only at hSw
    go_simp
    try with_reducible rfl
  try simp only [Act.put, List.setIfInBounds_toArray, List.set_cons_zero, List.set_cons_succ, List.getElem_toArray, List.getElem_cons_zero, List.getElem_cons_succ]
  refine wpAnyH_take (i := 6) (v := .pointer (some ⟨hb, 0, none⟩)) rfl (by kernel_rfl) (by kernel_rfl) (by kernel_rfl) (fun _ _ _ h => h) (Or.inl ⟨by kernel_rfl, ?_⟩) (by assumption) ?_
  · intro w hSw
    try dsimp only at hSw
    go_simp
    try with_reducible rfl
  try simp only [Act.put, List.setIfInBounds_toArray, List.set_cons_zero, List.set_cons_succ, List.getElem_toArray, List.getElem_cons_zero, List.getElem_cons_succ]
  refine wpAnyH_take (i := 7) (v := .pointer (some ⟨hb, 1, none⟩)) rfl (by kernel_rfl) (by kernel_rfl) (by kernel_rfl) (fun _ _ _ h => h) (Or.inl ⟨by kernel_rfl, ?_⟩) (by assumption) ?_
  · intro w hSw
    try dsimp only at hSw
    go_simp
    try with_reducible rfl
  try simp only [Act.put, List.setIfInBounds_toArray, List.set_cons_zero, List.set_cons_succ, List.getElem_toArray, List.getElem_cons_zero, List.getElem_cons_succ]
  refine wpAnyH_take (i := 8) (v := .pointer (some ⟨hb, 4, none⟩)) rfl (by kernel_rfl) (by kernel_rfl) (by kernel_rfl) (fun _ _ _ h => h) (Or.inl ⟨by kernel_rfl, ?_⟩) (by assumption) ?_
  · intro w hSw
    try dsimp only at hSw
    go_simp
    try with_reducible rfl
  try simp only [Act.put, List.setIfInBounds_toArray, List.set_cons_zero, List.set_cons_succ, List.getElem_toArray, List.getElem_cons_zero, List.getElem_cons_succ]
  refine wpAnyH_take (i := 9) (v := lv) rfl (by kernel_rfl) (by kernel_rfl) (by kernel_rfl) (fun _ _ _ h => h) (Or.inl ⟨by kernel_rfl, ?_⟩) (by assumption) ?_
  · intro w hSw
    try dsimp only at hSw
    go_simp
    try with_reducible rfl
  try simp only [Act.put, List.setIfInBounds_toArray, List.set_cons_zero, List.set_cons_succ, List.getElem_toArray, List.getElem_cons_zero, List.getElem_cons_succ]
  refine wpAnyH_ready (rs := [10]) (by kernel_rfl) (by simp) ?_
  refine AllReadyH.cons rfl (fun K hK => ?_) AllReadyH.nil
  go_simp
  go_at_call 71
  refine (HCL.out _ (Below.refl _ _).drew).mono ?_
  rintro _ w3 ⟨la, lc, rfl, hr3, hb3⟩
  refine hK.out _ _ (HH.out _ hb3) (fun hHeld2 => ?_)
  clear hK K hHeld
  try simp only [Act.put, List.setIfInBounds_toArray, List.set_cons_zero, List.set_cons_succ, List.getElem_toArray, List.getElem_cons_zero, List.getElem_cons_succ]
  refine wpAnyH_take (i := 11) (v := .agg (placeM (i : Int) ep le nd (.slice ca' ch.length cc') (.slice la p.lives.length lc)).toArray) rfl (by kernel_rfl) (by kernel_rfl) (by kernel_rfl) (fun _ _ _ h => h) (Or.inl ⟨by kernel_rfl, ?_⟩) (by assumption) ?_
  · intro w hSw
    try dsimp only at hSw
    go_simp
    try with_reducible rfl
  try simp only [Act.put, List.setIfInBounds_toArray, List.set_cons_zero, List.set_cons_succ, List.getElem_toArray, List.getElem_cons_zero, List.getElem_cons_succ]
  have hk3 := (hb3.block _ (Array.getElem?_eq_some_iff.1 HW.out.1).1).trans HW.out.1
  refine wpAnyH_ready (rs := [12]) (by kernel_rfl) (by simp) ?_
  refine AllReadyH.cons rfl (fun K hK => ?_) AllReadyH.nil
  rw [if_pos (by rfl)]
  refine wp_store_mid 47 (.tmp 6) (.tmp 31) rfl w.heap.size 0 (placeM (i : Int) ep le nd (.slice ca' ch.length cc') (.slice la p.lives.length lc)).toArray rfl rfl (there_of_blk hk3 (by simp)) (by kernel_rfl) (all_oneCell_toArray (by simp [Value.oneCell'])) ?_
  obtain ⟨hz, hu⟩ := setCells_whole (placeM (i : Int) ep le nd (.slice ca' ch.length cc') (.slice la p.lives.length lc)) hk3 rfl
  have hlt3 : w.heap.size < w3.heap.size := (Array.getElem?_eq_some_iff.1 hk3).1
  refine hK.out _ (w3.setCells w.heap.size 0 (placeM (i : Int) ep le nd (.slice ca' ch.length cc') (.slice la p.lives.length lc))) ⟨?_, ?_, ?_, ?_, fun j => frozen_of hz⟩ (fun hHeld3 => ?_)
  · exact upd_some hu hHeld2.1 (show ¬ (_ = _) by omega)
  · exact upd_some hu hHeld2.2.1 (show ¬ (_ = _) by omega)
  · exact upd_some hu hHeld2.2.2.1 (show ¬ (_ = _) by omega)
  · exact upd_some hu hHeld2.2.2.2.1 (show ¬ (_ = _) by omega)
  have hfin : Below w.heap.size w (w3.setCells w.heap.size 0 (placeM (i : Int) ep le nd (.slice ca' ch.length cc') (.slice la p.lives.length lc))) := (HW.out.2.2.trans (hb3.mono HW.out.2.2.size)).trans (hu.toBelow (by omega) (fun k e => by omega))
  have hrg := range_of_blk hz
  generalize w3.setCells w.heap.size 0 (placeM (i : Int) ep le nd (.slice ca' ch.length cc') (.slice la p.lives.length lc)) = w4 at *
  clear hK K hHeld2 hHeld3 HH HCL
  try simp only [Act.put, List.getElem_toArray, List.getElem_cons_zero, List.getElem_cons_succ]
  refine wpAnyH_done (by kernel_rfl) ?_ _
  first | (go_wp2) | skip
  have hl := run_loadVar_mid w4 w.heap.size 0 47 (placeM (i : Int) ep le nd (.slice ca' ch.length cc') (.slice la p.lives.length lc)) _ hrg Tryz.underlying47 rfl (by kernel_rfl)
  exact bodyPost_ret (v := .agg (placeM (i : Int) ep le nd (.slice ca' ch.length cc') (.slice la p.lives.length lc)).toArray) (results_at rfl rfl hl) rfl ⟨_, _, _, _, _, by rw [hep, hle], hfin⟩
end Go.Proofs.YtcpaaleogmiamaaGreatDoor
