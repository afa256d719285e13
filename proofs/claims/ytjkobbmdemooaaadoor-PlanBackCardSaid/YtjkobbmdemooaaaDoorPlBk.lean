/- The walk of PlanBack. -/
import Derived.Test.YtjkobbmdemooaaaDoorPlAw
namespace Go.Proofs.YtjkobbmdemooaaaDoor
open Go.RowKit

theorem Encode_no {x : Event} (h : eventB x = false) {w : World} (hE : Env w) : Calls Tryd.prog 16 #[x.v] w fun e w' => e = .returned (.tuple #[.string (bs []), .int .i64 1]) ∧ Below w.heap.size w w' := by
  have := Encode_any x hE
  unfold encOut at this
  rw [h] at this
  exact this
theorem Encode_yes {x : Event} (h : eventB x = true) {w : World} (hE : Env w) : Calls Tryd.prog 16 #[x.v] w fun e w' => e = .returned (.tuple #[.string (bs (encE x)), .int .i64 0]) ∧ Below w.heap.size w w' := by
  have := Encode_any x hE
  unfold encOut at this
  rw [h] at this
  exact this

theorem encE_le {x : Event} (h : eventB x = true) : (encE x).length ≤ 1000 := by
  obtain ⟨k1, k2, k3, k4⟩ := eventB_I64 h
  have l0 := encP_le k1
  have l1 := encP_le k2
  have l2 := encP_le k3
  have l3 := encP_le k4
  simp only [encE, List.length_cons, List.length_append, List.length_nil]
  omega

/-- The last part of PlanBack: what comes of the string. -/
theorem last_none {s : List UInt8} (hs : s.length ≤ 140737488355327) (h : decE s = none) {w : World} (hE : Env w) : Calls Tryd.prog 17 #[.string (bs s)] w fun e w' => e = .returned (.tuple #[.agg #[.int .i64 0, .int .i64 0, .int .i64 0, .int .i64 0], .int .i64 3]) ∧ Below w.heap.size w w' := by
  have := Decode_any s hs hE
  unfold decOut at this
  rw [h] at this
  exact this
theorem last_some {s : List UInt8} (hs : s.length ≤ 140737488355327) {x : Event} (h : decE s = some x) {w : World} (hE : Env w) : Calls Tryd.prog 17 #[.string (bs s)] w fun e w' => e = .returned (.tuple #[x.v, .int .i64 0]) ∧ Below w.heap.size w w' := by
  have := Decode_any s hs hE
  unfold decOut at this
  rw [h] at this
  exact this

set_option maxRecDepth 100000 in
set_option maxHeartbeats 2000000 in
theorem PBack_any (a b : Event) (s : List UInt8) (hs : s.length ≤ 140737488355327) {w : World} (hE : Env w) : Calls Tryd.prog 4 #[a.v, b.v, .string (bs s)] w fun e w' => e = .returned (.bool true) ∧ Below w.heap.size w w' := by
  have HE := Lib.hid (fun W (hb : Below w.heap.size w W) => hE.below hb)
  have hea : ∀ W, Below w.heap.size w W → Calls Tryd.prog 16 #[a.v] W fun e w' => e = .returned (.tuple #[.string (bs (if eventB a = true then encE a else [])), .int .i64 (if eventB a = true then 0 else 1)]) ∧ Below W.heap.size W w' := by
    intro W hb
    cases h : eventB a
    · exact Encode_no h (hE.below hb)
    · exact Encode_yes h (hE.below hb)
  have heb : ∀ W, Below w.heap.size w W → Calls Tryd.prog 16 #[b.v] W fun e w' => e = .returned (.tuple #[.string (bs (if eventB b = true then encE b else [])), .int .i64 (if eventB b = true then 0 else 1)]) ∧ Below W.heap.size W w' := by
    intro W hb
    cases h : eventB b
    · exact Encode_no h (hE.below hb)
    · exact Encode_yes h (hE.below hb)
  have hda : ∀ W, eventB a = true → Below w.heap.size w W → Calls Tryd.prog 17 #[.string (bs (encE a))] W fun e w' => e = .returned (.tuple #[a.v, .int .i64 0]) ∧ Below W.heap.size W w' :=
    fun W h hb => last_some (by have := encE_le h; omega) ((decE_iff _ _).2 ⟨h, rfl⟩) (hE.below hb)
  have hinj : eventB a = true → eventB b = true → bs (encE a) = bs (encE b) → a = b := fun h1 h2 h => encE_inj h1 h2 (bs_inj h)
  have hdn : decE s = none → ∀ W, Below w.heap.size w W → Calls Tryd.prog 17 #[.string (bs s)] W fun e w' => e = .returned (.tuple #[.agg #[.int .i64 0, .int .i64 0, .int .i64 0, .int .i64 0], .int .i64 3]) ∧ Below W.heap.size W w' :=
    fun h W hb => last_none hs h (hE.below hb)
  have hds : ∀ x, decE s = some x → (∀ W, Below w.heap.size w W → Calls Tryd.prog 17 #[.string (bs s)] W fun e w' => e = .returned (.tuple #[x.v, .int .i64 0]) ∧ Below W.heap.size W w') ∧
      (∀ W, Below w.heap.size w W → Calls Tryd.prog 16 #[x.v] W fun e w' => e = .returned (.tuple #[.string (bs s), .int .i64 0]) ∧ Below W.heap.size W w') := by
    intro x h
    obtain ⟨h1, h2⟩ := (decE_iff _ _).1 h
    refine ⟨fun W hb => last_some hs h (hE.below hb), fun W hb => ?_⟩
    rw [h2]
    exact Encode_yes h1 (hE.below hb)
  have HEA := Lib.hid hea
  have HEB := Lib.hid heb
  have HDA := Lib.hid hda
  have HIJ := Lib.hid hinj
  have HDN := Lib.hid hdn
  have HDS := Lib.hid hds
  clear hea heb hda hinj hdn hds hE
  obtain ⟨ka, na, pa, ca⟩ := a
  obtain ⟨kb, nb, pb, cb⟩ := b
  simp only [Event.v] at *
  obtain ⟨wa, hwa⟩ : ∃ wa, wa = (w.alloc (.cells #[.int .i64 ka, .int .i64 na, .int .i64 pa, .int .i64 ca] 35)).alloc (.cells #[.int .i64 kb, .int .i64 nb, .int .i64 pb, .int .i64 cb] 35) := ⟨_, rfl⟩
  have hbwa : Below w.heap.size w wa := by rw [hwa]; exact below_alloc2 _ _ _
  have hN0 : wa.heap[w.heap.size]? = some (.cells #[.int .i64 ka, .int .i64 na, .int .i64 pa, .int .i64 ca] 35 (0, 0)) := by
    rw [hwa, Below.heap_alloc _ _ _ (by simp)]; exact heap_alloc_new _ _
  have hN1 : wa.heap[w.heap.size + 1]? = some (.cells #[.int .i64 kb, .int .i64 nb, .int .i64 pb, .int .i64 cb] 35 (0, 0)) := by
    rw [hwa]; exact heap_new1 _ _ _
  have hsz : wa.heap.size = w.heap.size + 2 := by rw [hwa]; simp
  have hkeep : ∀ W, Below wa.heap.size wa W → W.cell? ⟨w.heap.size, 0, none⟩ = some (.int .i64 ka) ∧ W.cell? ⟨w.heap.size, 1, none⟩ = some (.int .i64 na) ∧ W.cell? ⟨w.heap.size, 2, none⟩ = some (.int .i64 pa) ∧ W.cell? ⟨w.heap.size, 3, none⟩ = some (.int .i64 ca) ∧
      W.cell? ⟨w.heap.size + 1, 0, none⟩ = some (.int .i64 kb) ∧ W.cell? ⟨w.heap.size + 1, 1, none⟩ = some (.int .i64 nb) ∧ W.cell? ⟨w.heap.size + 1, 2, none⟩ = some (.int .i64 pb) ∧ W.cell? ⟨w.heap.size + 1, 3, none⟩ = some (.int .i64 cb) ∧ Below w.heap.size w W := by
    intro W hb
    have b0 := (hb.block w.heap.size (by omega)).trans hN0
    have b1 := (hb.block (w.heap.size + 1) (by omega)).trans hN1
    exact ⟨cells_of b0 0 _ rfl, cells_of b0 1 _ rfl, cells_of b0 2 _ rfl, cells_of b0 3 _ rfl, cells_of b1 0 _ rfl, cells_of b1 1 _ rfl, cells_of b1 2 _ rfl, cells_of b1 3 _ rfl, hbwa.trans (hb.mono (by omega))⟩
  have haw := awake_any (HE.out _ hbwa)
  have HAW := Lib.hid haw
  have HK := Lib.hid hkeep
  clear hkeep haw hN0 hN1 hsz hbwa
  obtain ⟨ea, hea⟩ : ∃ e, eventB ⟨ka, na, pa, ca⟩ = e := ⟨_, rfl⟩
  obtain ⟨eb, heb⟩ : ∃ e, eventB ⟨kb, nb, pb, cb⟩ = e := ⟨_, rfl⟩
  rw [hea] at HEA HDA HIJ
  rw [heb] at HEB HIJ
  obtain ⟨sa, hsa⟩ : ∃ sa, encE ⟨ka, na, pa, ca⟩ = sa := ⟨_, rfl⟩
  obtain ⟨sb, hsb⟩ : ∃ sb, encE ⟨kb, nb, pb, cb⟩ = sb := ⟨_, rfl⟩
  rw [hsa] at HEA HDA HIJ
  rw [hsb] at HEB HIJ
  have hsame : (⟨ka, na, pa, ca⟩ : Event) = ⟨kb, nb, pb, cb⟩ → bs sa = bs sb := by intro h; rw [← hsa, ← hsb, h]
  have HSM := Lib.hid hsame
  obtain ⟨ta, hta⟩ : ∃ ta, bs (if ea = true then sa else []) = ta := ⟨_, rfl⟩
  obtain ⟨tb, htb⟩ : ∃ tb, bs (if eb = true then sb else []) = tb := ⟨_, rfl⟩
  obtain ⟨ra, hra⟩ : ∃ ra : Int, (if ea = true then 0 else 1) = ra := ⟨_, rfl⟩
  obtain ⟨rb, hrb⟩ : ∃ rb : Int, (if eb = true then 0 else 1) = rb := ⟨_, rfl⟩
  rw [hta, hra] at HEA
  rw [htb, hrb] at HEB
  have hra0 : ra = 0 → ea = true ∧ ta = bs sa := by
    intro h
    cases ea
    · simp at hra; omega
    · exact ⟨rfl, by rw [← hta]; rfl⟩
  have hrb0 : rb = 0 → eb = true ∧ tb = bs sb := by
    intro h
    cases eb
    · simp at hrb; omega
    · exact ⟨rfl, by rw [← htb]; rfl⟩
  have hinj2 : ra = 0 → rb = 0 → (ta = tb ↔ (⟨ka, na, pa, ca⟩ : Event) = ⟨kb, nb, pb, cb⟩) := by
    intro h1 h2
    obtain ⟨e1, e2⟩ := hra0 h1
    obtain ⟨e3, e4⟩ := hrb0 h2
    rw [e2, e4]
    exact ⟨fun h => HIJ.out e1 e3 h, fun h => hsame h⟩
  have hda2 : ra = 0 → ∀ W, Below w.heap.size w W → Calls Tryd.prog 17 #[.string ta] W fun e w' => e = .returned (.tuple #[.agg #[.int .i64 ka, .int .i64 na, .int .i64 pa, .int .i64 ca], .int .i64 0]) ∧ Below W.heap.size W w' := by
    intro h W hb
    obtain ⟨e1, e2⟩ := hra0 h
    rw [e2]
    exact HDA.out W e1 hb
  have HI2 := Lib.hid hinj2
  have HD2 := Lib.hid hda2
  clear hea heb hsa hsb hsame hta htb hra hrb hra0 hrb0 hinj2 hda2 HDA HIJ HSM
  go_enter Tryd.func4, Tryd.ntmps4
  go_upto_region 1 with fail
  rw [← hwa]
  clear hwa
  go_upto_region 5 with (first | (go_at_call 8; refine HAW.out.mono ?_; rintro _ w1 ⟨rfl, hb1⟩; obtain ⟨x0, x1, x2, x3, y0, y1, y2, y3, hbw1⟩ := HK.out w1 hb1) | (go_at_call 16; with_reducible refine (HEA.out w1 hbw1).mono ?_; rintro _ w2 ⟨rfl, hb2'⟩; have hb2 := hb1.trans (hb2'.mono hb1.size); obtain ⟨x20, x21, x22, x23, y20, y21, y22, y23, hbw2⟩ := HK.out w2 hb2) | (go_at_call 16; with_reducible refine (HEB.out w2 hbw2).mono ?_; rintro _ w3 ⟨rfl, hb3'⟩; have hb3 := hb2.trans (hb3'.mono hb2.size); obtain ⟨x30, x31, x32, x33, y30, y31, y32, y33, hbw3⟩ := HK.out w3 hb3))
  have HB3 := Lib.hid (And.intro hb3 hbw3)
  clear hb1 hb2 hb3 hb2' hb3' hbw1 hbw2 hbw3 x0 x1 x2 x3 y0 y1 y2 y3 x20 x21 x22 x23 y20 y21 y22 y23
  go_cut [42] from 28 to 42 (fun v wx => v = .bool false ∧ wx = w3)
  case first =>
    clear HEA HEB HD2 HDN HDS HAW
    by_cases h1 : ra = 0
    · subst h1
      by_cases h2 : rb = 0
      · subst h2
        by_cases hss : ta = tb
        · have hab := (HI2.out rfl rfl).1 hss
          simp only [Event.mk.injEq] at hab
          obtain ⟨rfl, rfl, rfl, rfl⟩ := hab
          subst hss
          go_wp2_with fail
          go_meet
          exact ⟨by simp, rfl⟩
        · have hne : ¬ (ka = kb ∧ na = nb ∧ pa = pb ∧ ca = cb) := by
            rintro ⟨rfl, rfl, rfl, rfl⟩
            exact hss ((HI2.out rfl rfl).2 rfl)
          have HNE := Lib.hid hne
          have hsf : ¬ ta.toList = tb.toList := by
            intro h
            rw [Lib.toList_data, Lib.toList_data] at h
            exact hss (by rw [← bs_of ta, ← bs_of tb, h])
          have hsg : (ta.toList == tb.toList) = false := by simpa using hsf
          clear hne
          go_wp2_with fail
          all_goals
            subst_vars
            first
              | exact absurd ⟨rfl, rfl, rfl, rfl⟩ HNE.out
              | (go_meet; exact ⟨by simp [hsf], rfl⟩)
      · go_wp2_with fail
        go_meet
        exact ⟨rfl, rfl⟩
    · go_wp2_with fail
      go_meet
      exact ⟨rfl, rfl⟩
  case rest =>
    obtain ⟨rfl, rfl⟩ := hcut
    clear HEA HEB HI2 HAW
    go_upto_if 44 with fail
    go_cut [] from 45 to 56 (fun wx => Below w.heap.size w wx)
    case first =>
      clear HDN HDS
      by_cases h1 : ra = 0
      · subst h1
        go_wp2_with (first | (go_at_call 17; with_reducible refine (HD2.out rfl wc HB3.out.2).mono ?_; rintro _ w4 ⟨rfl, hb4⟩; have hb4' := HB3.out.1.trans (hb4.mono HB3.out.1.size); have hal : ∀ o, Below wa.heap.size wa (w4.alloc o) := (fun o => hb4'.alloc hb4'.size o); have hx0 := fun o => (HK.out _ (hal o)).1; have hx1 := fun o => (HK.out _ (hal o)).2.1; have hx2 := fun o => (HK.out _ (hal o)).2.2.1; have hx3 := fun o => (HK.out _ (hal o)).2.2.2.1; have HAL := Lib.hid (fun o => (HK.out _ (hal o)).2.2.2.2.2.2.2.2); clear hal hb4'))
        go_meet
        exact HAL.out _
      · go_wp2_with fail
        go_meet
        exact HB3.out.2
    case rest =>
      obtain ⟨od, hod⟩ : ∃ od, decE s = od := ⟨_, rfl⟩
      cases od with
      | none =>
        have hd := HDN.out hod wc hcut
        have HD := Lib.hid (And.intro hd hcut)
        clear hd hcut
        go_wp2_with (first | (go_at_call 17; with_reducible refine HD.out.1.mono ?_; rintro _ w4 ⟨rfl, hb4⟩))
        go_ret
        exact ⟨rfl, below_trans HD.out.2 (hb4.trans ((below_alloc _ _).mono hb4.size))⟩
      | some x =>
        obtain ⟨hd1, hd2⟩ := HDS.out x hod
        have HD := Lib.hid (And.intro hd1 (And.intro hd2 hcut))
        clear hd1 hd2 hcut hod
        obtain ⟨kx, nx, px, cx⟩ := x
        simp only at HD
        go_wp2_with (first | (go_at_call 17; with_reducible refine (HD.out.1 wc HD.out.2.2).mono ?_; rintro _ w4 ⟨rfl, hb4⟩; have hb4' := below_trans HD.out.2.2 hb4; have hz4 := hb4'.size; have hal : ∀ o, Below w.heap.size w (w4.alloc o) := (fun o => hb4'.alloc hz4 o); have HAL := Lib.hid hal; clear hal hb4 hb4') | (go_at_call 16; with_reducible refine (HD.out.2.1 _ (HAL.out _)).mono ?_; rintro _ w5 ⟨rfl, hb5⟩))
        go_ret
        exact ⟨rfl, below_trans (HAL.out _) hb5⟩
end Go.Proofs.YtjkobbmdemooaaaDoor
