/- The walks of a tape's New, Append, Sync, Cut. -/
import Derived.Test.YtcpaaleogmiamaaGreatDoorMp7
namespace Go.Proofs.YtcpaaleogmiamaaGreatDoor
open Go.RowKit

theorem Upd.or {F : Nat → Prop} {G : Nat → Prop} {w w' : World} (h : Upd F w w') (hfg : ∀ k, F k → G k) : Upd G w w' := h.mono (fun k _ hk => hfg k hk)

theorem le_sum : ∀ {l : List Nat} {x : Nat}, x ∈ l → x ≤ l.sum
  | [], _, h => by cases h
  | y :: l, x, h => by
    rw [List.sum_cons]
    rcases List.mem_cons.1 h with rfl | h
    · omega
    · have := le_sum h
      omega

def newT (room : Int) : Tp := ⟨[], min (max room 0) 4194304, false, 0, 0, 0⟩
theorem newT_ok (room : Int) : TpOk (newT room) := ⟨by simp only [newT]; omega, by simp only [newT, dataSum, List.map_nil, List.sum_nil]; omega, by simp [newT], by simp [newT], by simp [newT]⟩

set_option maxRecDepth 100000 in
theorem TNew_any (room : Int) (w : World) : Calls Tryz.prog 15 #[.int .i64 room] w fun e w' => e = .returned (.pointer (some ⟨w.heap.size + 1, 0, none⟩)) ∧ TpAt w' (w.heap.size + 1) w.heap.size [] (newT room) ∧ Below w.heap.size w w' := by
  have hmm := @run_makeMap Tryz.prog
  have hfin : ∀ (r : Int), r = min (max room 0) 4194304 → TpAt ((w.alloc (.map #[] 0)).alloc (.cells #[.map (some w.heap.size), .int .i64 r, .bool false, .int .i64 0, .int .i64 0, .int .i64 0] 129)) (w.heap.size + 1) w.heap.size [] (newT room) := by
    intro r hr
    subst hr
    refine ⟨heap_new1 _ _ _, MapSt.made ((Below.heap_alloc _ _ _ (by simp)).trans (heap_alloc_new _ _)), by simp, by simp, rfl, newT_ok room⟩
  have HF := Lib.hid hfin
  clear hfin
  by_cases h0 : room < 0
  · have e0 : max room 0 = 0 := by omega
    go_enter Tryz.func15, Tryz.ntmps15
    go_wp2
    go_ret
    exact ⟨rfl, HF.out _ (by omega), below_alloc2 _ _ _⟩
  · by_cases h1 : room ≤ 4194304
    · go_enter Tryz.func15, Tryz.ntmps15
      go_wp2
      go_ret
      exact ⟨rfl, HF.out _ (by omega), below_alloc2 _ _ _⟩
    · go_enter Tryz.func15, Tryz.ntmps15
      go_wp2
      go_ret
      exact ⟨rfl, HF.out _ (by omega), below_alloc2 _ _ _⟩

theorem TpTo.act {w wz w' : World} {b mb : Nat} {L L' : TpL} {t1 : Tp} {e : Ending} (hu : Upd (TpF b mb L) w wz) (hnew : ∀ k ∈ tpBlocks L', k ∈ tpBlocks L ∨ w.heap.size ≤ k)
    (ha : e = .returned (.int .i64 (actT t1).2) ∧ TpAt w' b mb L' (actT t1).1 ∧ Upd (fun k => k = b) wz w') : TpTo w b mb L (actT t1).1 (.int .i64 (actT t1).2) e w' :=
  ⟨ha.1, L', ha.2.1, hu.trans (ha.2.2.or (fun _k hk => .inl hk)), hnew⟩
theorem TpTo.same {w : World} {b mb : Nat} {L : TpL} {t : Tp} {v : Value} (h : TpAt w b mb L t) : TpTo w b mb L t v (.returned v) w := ⟨rfl, L, h, Upd.refl _ _, fun _ hk => .inl hk⟩
theorem TpTo.sameB {w w' : World} {b mb : Nat} {L : TpL} {t : Tp} {v : Value} (h : TpAt w b mb L t) (hb : Below w.heap.size w w') : TpTo w b mb L t v (.returned v) w' := ⟨rfl, L, h.below hb, .of_below hb, fun _ hk => .inl hk⟩

def appF (s : List UInt8) (f : Fl) : Fl := ⟨f.data ++ s, f.safe⟩
/-- Bytes behind a file. -/
def appT (t : Tp) (n s : List UInt8) : Tp × Int :=
  if t.down = true then (t, 10)
  else if isNameB n = true then
    (match fget t.files n with
     | none => if 256 ≤ t.files.length ∨ t.room - (dataSum t.files : Int) < (s.length : Int) then (t, 11) else actT { t with files := t.files ++ [(n, ⟨s, 0⟩)] }
     | some _ => if t.room - (dataSum t.files : Int) < (s.length : Int) then (t, 11) else actT { t with files := updF t.files n (appF s) })
  else (t, 1)

theorem updF_len (l : List (List UInt8 × Fl)) (n : List UInt8) (f : Fl → Fl) : (updF l n f).length = l.length := by simp [updF]
theorem updF_all {l : List (List UInt8 × Fl)} {n : List UInt8} {f : Fl → Fl} {P : Fl → Prop} (h : ∀ x ∈ l, P x.2) (hf : ∀ g, P g → P (f g)) : ∀ x ∈ updF l n f, P x.2 := by
  intro x hx
  obtain ⟨y, hy, rfl⟩ := List.mem_map.1 hx
  split
  · exact hf _ (h y hy)
  · exact h y hy

theorem app_new_ok {t : Tp} (h : TpOk t) {n s : List UInt8} (h1 : t.files.length < 256) (h2 : (s.length : Int) ≤ t.room - (dataSum t.files : Int)) : TpOk { t with files := t.files ++ [(n, ⟨s, 0⟩)] } :=
  ⟨h.room, by simp only [dataSum, List.map_append, List.sum_append, List.map_cons, List.map_nil, List.sum_cons, List.sum_nil] at h2 ⊢; omega, by simp; omega, by
    intro x hx
    rcases List.mem_append.1 hx with hx | hx
    · exact h.safe x hx
    · rw [List.mem_singleton.1 hx]; exact Nat.zero_le _, h.armed⟩
theorem app_old_ok {t : Tp} (h : TpOk t) (hn : (t.files.map (·.1)).Nodup) {n s : List UInt8} {g : Fl} (hg : fget t.files n = some g) (h2 : (s.length : Int) ≤ t.room - (dataSum t.files : Int)) : TpOk { t with files := updF t.files n (appF s) } := by
  have h3 := sum_updF (f := appF s) hn hg
  simp only [appF, List.length_append] at h3
  exact ⟨h.room, by simp only; omega, by simp only [updF_len]; exact h.few, updF_all (P := fun f => f.safe ≤ f.data.length) h.safe (fun g hg => by simp [appF]; omega), h.armed⟩

set_option maxRecDepth 100000 in
set_option maxHeartbeats 2000000 in
theorem TAppend_any {w : World} {b mb : Nat} {L : TpL} {t : Tp} (h : TpAt w b mb L t) (n s : List UInt8) (hs : s.length ≤ 140737488355328) :
    Calls Tryz.prog 44 #[.pointer (some ⟨b, 0, none⟩), .string (bs n), .string (bs s)] w (TpTo w b mb L (appT t n s).1 (.int .i64 (appT t n s).2)) := by
  obtain ⟨c0, c1, c2, c3, c4, c5, fz⟩ := h.cells
  have HR := Lib.hid (Tready_any h)
  have HL := Lib.hid (fun W (hb : Below w.heap.size w W) => TLeft_any (h.below hb))
  have hlk := h.lookup n
  have hfg : fget t.files n = (flGet L n).map (fun x => x.2.2) := by rw [h.eq]; exact fget_tp L n
  have hlen := fun ty => run_len_strs (P := Tryz.prog) und_mapFile h.map ty
  have hll : (tpMap L).length = t.files.length := by rw [h.eq]; simp
  rw [hll] at hlen
  have hfew := h.ok.few
  have hsz := bs_size s
  have H := Lib.hid h
  clear fz h hll
  cases hd : t.down with
  | true =>
    have hv : appT t n s = (t, 10) := by rw [appT, if_pos hd]
    rw [hd] at HR
    rw [hv]
    clear hv
    go_enter Tryz.func44, Tryz.ntmps44
    go_wp2_with (first | (go_at_call 101; refine HR.out.mono ?_; rintro _ w1 ⟨rfl, rfl⟩))
    go_ret
    exact TpTo.same H.out
  | false =>
    rw [hd] at HR
    cases hnm : isNameB n with
    | false =>
      have hv : appT t n s = (t, 1) := by rw [appT, if_neg (by rw [hd]; simp), if_neg (by rw [hnm]; simp)]
      have HN := Lib.hid (TisName_any n w)
      rw [hnm] at HN
      rw [hv]
      clear hv hfg
      go_enter Tryz.func44, Tryz.ntmps44
      go_wp2_with (first | (go_at_call 101; refine HR.out.mono ?_; rintro _ w1 ⟨rfl, rfl⟩) | (go_at_call 102; refine HN.out.mono ?_; rintro _ w1 ⟨rfl, rfl⟩))
      go_ret
      exact TpTo.same H.out
    | true =>
      have HN := Lib.hid (TisName_any n w)
      rw [hnm] at HN
      obtain ⟨left, hleft⟩ : ∃ left, t.room - (dataSum t.files : Int) = left := ⟨_, rfl⟩
      rw [hleft] at HL
      cases hg : flGet L n with
      | none =>
        rw [hg] at hlk hfg
        have hlk' : (Instr.lookup 127 (.map (some mb)) (.string (bs n)) false).run Tryz.prog w = .ok (.pointer none) w := hlk
        have hfn : fget t.files n = none := hfg
        have hv0 : appT t n s = if 256 ≤ t.files.length ∨ left < (s.length : Int) then (t, 11) else actT { t with files := t.files ++ [(n, ⟨s, 0⟩)] } := by
          rw [appT, if_neg (by rw [hd]; simp), if_pos hnm, hfn, ← hleft]
        by_cases h256 : 256 ≤ t.files.length
        · have i1 : (256 : Int) ≤ (t.files.length : Int) := by omega
          have hv : appT t n s = (t, 11) := by rw [hv0, if_pos (.inl h256)]
          rw [hv]
          clear hv hv0 hfn hfg hlk hleft hg
          go_enter Tryz.func44, Tryz.ntmps44
          go_wp2_with (first | (go_at_call 101; refine HR.out.mono ?_; rintro _ w1 ⟨rfl, rfl⟩) | (go_at_call 102; refine HN.out.mono ?_; rintro _ w1 ⟨rfl, rfl⟩))
          go_ret
          exact TpTo.same H.out
        · have i1 : ¬ (256 : Int) ≤ (t.files.length : Int) := by omega
          by_cases hfull : left < (s.length : Int)
          · have hv : appT t n s = (t, 11) := by rw [hv0, if_pos (.inr hfull)]
            have i2 : left < ((bs s).size : Int) := by rw [hsz]; exact hfull
            rw [hv]
            clear hv hv0 hfn hfg hlk hleft hg
            go_enter Tryz.func44, Tryz.ntmps44
            go_wp2_with (first | (go_at_call 101; refine HR.out.mono ?_; rintro _ w1 ⟨rfl, rfl⟩) | (go_at_call 102; refine HN.out.mono ?_; rintro _ w1 ⟨rfl, rfl⟩) | (go_at_call 50; refine (HL.out _ (Below.refl _ _)).mono ?_; rintro _ w2 ⟨rfl, hb2⟩))
            go_ret
            exact TpTo.sameB H.out hb2
          · have hv : appT t n s = actT { t with files := t.files ++ [(n, ⟨s, 0⟩)] } := by rw [hv0, if_neg (by rintro (h | h); exact h256 h; exact hfull h)]
            have i2 : ¬ left < ((bs s).size : Int) := by rw [hsz]; exact hfull
            have hok := app_new_ok H.out.ok (n := n) (s := s) (by omega) (by omega)
            obtain ⟨t1, ht1⟩ : ∃ t1 : Tp, { t with files := t.files ++ [(n, ⟨s, 0⟩)] } = t1 := ⟨_, rfl⟩
            rw [ht1] at hv
            rw [hv]
            have HOK := Lib.hid (And.intro hok (And.intro hg ht1))
            have hcz : (⟨#[]⟩ : ByteArray) ++ bs s = bs s := bs_append [] s
            have k1 : ¬ 9223372036854775807 < 0 + (bs s).size := by rw [hsz]; omega
            have k2 : ¬ 9223372036854775807 < (bs s).size := by rw [hsz]; omega
            clear hv hv0 hfn hfg hlk hleft hg hok ht1
            go_enter Tryz.func44, Tryz.ntmps44
            go_upto_region 12 with (first | (go_at_call 101; refine HR.out.mono ?_; rintro _ w1 ⟨rfl, rfl⟩) | (go_at_call 102; refine HN.out.mono ?_; rintro _ w1 ⟨rfl, rfl⟩) | (go_at_call 50; refine (HL.out _ (Below.refl _ _)).mono ?_; rintro _ w2 ⟨rfl, hb2⟩; have HB2 := Lib.hid hb2; have hz2 := hb2.size; clear hb2))
            obtain ⟨fb, hfb⟩ : ∃ fb, w2.heap.size = fb := ⟨_, rfl⟩
            obtain ⟨wf, hwf⟩ : ∃ wf, wf = w2.alloc (.cells #[.string ⟨#[]⟩, .int .i64 0] 150) := ⟨_, rfl⟩
            have hbf : Below w1.heap.size w1 wf := by rw [hwf]; exact HB2.out.alloc hz2 _
            have hff : wf.heap[fb]? = some (.cells #[.string ⟨#[]⟩, .int .i64 0] 150 (0, 0)) := by rw [hwf, ← hfb]; exact heap_alloc_new _ _
            have hat := H.out.below hbf
            obtain ⟨w3, hmu, hm3, hu3⟩ := run_mapUpdate_strs und_mapFile und_str hat.map n (.pointer (some ⟨fb, 0, none⟩))
            have hne : fb ≠ mb := by
              intro e
              have := H.out.map.lt
              omega
            have hf3 := (hu3.block fb (Array.getElem?_eq_some_iff.1 hff).1 hne).trans hff
            have hcf : wf.cell? ⟨b, 0, none⟩ = some (.map (some mb)) := hat.cells.1
            have d0 : w3.cell? ⟨fb, 0, none⟩ = some (.string ⟨#[]⟩) := cells_of hf3 0 _ rfl
            have d1 : w3.frozen? ⟨fb, 0, none⟩ = false := frozen_of hf3
            obtain ⟨wz, hwz⟩ : ∃ wz, wz = w3.setCell ⟨fb, 0, none⟩ (.string (bs s)) := ⟨_, rfl⟩
            have hset := upd_set1 w3 fb 0 (.string (bs s))
            have hfz : wz.heap[fb]? = some (.cells (flCells ⟨s, 0⟩) 150 (0, 0)) := by rw [hwz]; exact setCell_same hf3
            have hfl : w1.heap.size ≤ fb := by omega
            have huz : Upd (fun k => k = mb ∨ k = fb) w1 wz := by
              rw [hwz]
              exact ((Upd.of_below hbf).trans (hu3.or (fun k e => .inl e))).trans (hset.or (fun k e => .inr e))
            have hmz : MapSt wz mb (sput (tpMap L) n (flPtr fb)) := by rw [hwz]; exact hm3.upd hset (fun e => hne e.symm)
            have htp := H.out.more HOK.out.2.1 hmz huz ⟨fun hk => by have := H.out.fLt fb (.inr (.inr hk)); omega, fun e => by have := H.out.blkLt; omega⟩ hfz HOK.out.1
            rw [HOK.out.2.2] at htp
            have hnew : ∀ k ∈ tpBlocks (L ++ [(n, fb, (⟨s, 0⟩ : Fl))]), k ∈ tpBlocks L ∨ w1.heap.size ≤ k := by
              intro k hk
              simp only [tpBlocks, List.map_append, List.map_cons, List.map_nil, List.mem_append, List.mem_singleton] at hk
              rcases hk with hk | hk
              · exact .inl hk
              · exact .inr (by omega)
            have huF : Upd (TpF b mb L) w1 wz := huz.mono (fun k hk e => by
              rcases e with e | e
              · exact .inr (.inl e)
              · omega)
            have HA := Lib.hid (Tact_any htp)
            have HZ := Lib.hid (And.intro huF hnew)
            have HWZ := Lib.hid hwz
            have HW := Lib.hid hwf
            rw [← hwf]
            rw [hfb]
            clear hwf hbf hff hat hm3 hu3 hf3 hset hfz huz hmz htp hnew huF hwz hfb
            go_upto_region 13 with fail
            go_upto_region 14 with fail
            try rw [hcz]
            rw [← HWZ.out]
            go_wp2_with (first | (go_at_call 103; refine HA.out.mono ?_; rintro _ w4 ⟨rfl, h1, h2⟩))
            go_ret
            exact TpTo.act HZ.out.1 HZ.out.2 ⟨rfl, h1, h2⟩
      | some x =>
        rw [hg] at hlk hfg
        have hlk' : (Instr.lookup 127 (.map (some mb)) (.string (bs n)) false).run Tryz.prog w = .ok (.pointer (some ⟨x.2.1, 0, none⟩)) w := hlk
        have hfn : fget t.files n = some x.2.2 := hfg
        have hv0 : appT t n s = if left < (s.length : Int) then (t, 11) else actT { t with files := updF t.files n (appF s) } := by
          rw [appT, if_neg (by rw [hd]; simp), if_pos hnm, hfn, ← hleft]
        by_cases hfull : left < (s.length : Int)
        · have hv : appT t n s = (t, 11) := by rw [hv0, if_pos hfull]
          have i2 : left < ((bs s).size : Int) := by rw [hsz]; exact hfull
          rw [hv]
          clear hv hv0 hfn hfg hlk hleft hg
          go_enter Tryz.func44, Tryz.ntmps44
          go_wp2_with (first | (go_at_call 101; refine HR.out.mono ?_; rintro _ w1 ⟨rfl, rfl⟩) | (go_at_call 102; refine HN.out.mono ?_; rintro _ w1 ⟨rfl, rfl⟩) | (go_at_call 50; refine (HL.out _ (Below.refl _ _)).mono ?_; rintro _ w2 ⟨rfl, hb2⟩))
          go_ret
          exact TpTo.sameB H.out hb2
        · obtain ⟨t1, ht1⟩ : ∃ t1 : Tp, { t with files := updF t.files n (appF s) } = t1 := ⟨_, rfl⟩
          have hv : appT t n s = actT t1 := by rw [hv0, if_neg hfull, ht1]
          have i2 : ¬ left < ((bs s).size : Int) := by rw [hsz]; exact hfull
          have hok := app_old_ok H.out.ok H.out.names (s := s) hfn (by omega)
          have hxs : x.2.2.data.length ≤ 4194304 := by
            have h1 := sum_updF (f := appF s) H.out.names hfn
            have h2 := H.out.ok.sum
            have h3 := H.out.ok.room
            have h4 : (dataSum (updF t.files n (appF s)) : Int) ≤ t.room := hok.sum
            simp only [appF, List.length_append] at h1
            have h5 : x.2.2.data.length ≤ dataSum t.files := by
              unfold dataSum
              have h6 : x.2.2.data.length ∈ t.files.map (fun y => y.2.data.length) := by
                unfold fget at hfn
                obtain ⟨y, hy, hy2⟩ := Option.map_eq_some_iff.1 hfn
                exact List.mem_map.2 ⟨y, List.mem_of_find?_eq_some hy, by rw [hy2]⟩
              exact le_sum h6
            omega
          have hxz := bs_size x.2.2.data
          have k1 : ¬ 9223372036854775807 < (bs x.2.2.data).size + (bs s).size := by rw [hxz, hsz]; omega
          have k2 : ¬ 9223372036854775807 < x.2.2.data.length + s.length := by omega
          have hcat : bs x.2.2.data ++ bs s = bs (x.2.2.data ++ s) := bs_append _ _
          rw [hv]
          have HOK := Lib.hid (And.intro hok (And.intro hg ht1))
          clear hv hv0 hfn hfg hlk hleft hg hok ht1 hxs
          go_enter Tryz.func44, Tryz.ntmps44
          go_upto_region 13 with (first | (go_at_call 101; refine HR.out.mono ?_; rintro _ w1 ⟨rfl, rfl⟩) | (go_at_call 102; refine HN.out.mono ?_; rintro _ w1 ⟨rfl, rfl⟩) | (go_at_call 50; refine (HL.out _ (Below.refl _ _)).mono ?_; rintro _ w2 ⟨rfl, hb2⟩; have HB2 := Lib.hid hb2; have hz2 := hb2.size; clear hb2))
          have hat := H.out.below HB2.out
          have hf2 := hat.fls x (flGet_mem HOK.out.2.1).1
          have d0 : w2.cell? ⟨x.2.1, 0, none⟩ = some (.string (bs x.2.2.data)) := cells_of hf2 0 _ rfl
          have d1 : w2.frozen? ⟨x.2.1, 0, none⟩ = false := frozen_of hf2
          obtain ⟨wz, hwz⟩ : ∃ wz, wz = w2.setCell ⟨x.2.1, 0, none⟩ (.string (bs (x.2.2.data ++ s))) := ⟨_, rfl⟩
          have hset := upd_set1 w2 x.2.1 0 (.string (bs (x.2.2.data ++ s)))
          have hfz : wz.heap[x.2.1]? = some (.cells (flCells (appF s x.2.2)) 150 (0, 0)) := by rw [hwz]; exact setCell_same hf2
          have htp := hat.file HOK.out.2.1 (appF s) (by rw [hwz]; exact hset) hfz HOK.out.1
          rw [HOK.out.2.2] at htp
          have hnew : ∀ k ∈ tpBlocks (updL L n (appF s)), k ∈ tpBlocks L ∨ w1.heap.size ≤ k := by
            intro k hk
            rw [updL_blocks] at hk
            exact .inl hk
          have huF : Upd (TpF b mb L) w1 wz := by
            rw [hwz]
            exact (Upd.of_below HB2.out).trans (hset.or (fun k e => .inr (.inr (List.mem_map.2 ⟨x, (flGet_mem HOK.out.2.1).1, e.symm⟩))))
          have HA := Lib.hid (Tact_any htp)
          have HZ := Lib.hid (And.intro huF hnew)
          have HWZ := Lib.hid hwz
          clear hat hf2 hset hfz htp hnew huF hwz
          go_upto_region 14 with fail
          try rw [hcat]
          rw [← HWZ.out]
          go_wp2_with (first | (go_at_call 103; refine HA.out.mono ?_; rintro _ w4 ⟨rfl, h1, h2⟩))
          go_ret
          exact TpTo.act HZ.out.1 HZ.out.2 ⟨rfl, h1, h2⟩
end Go.Proofs.YtcpaaleogmiamaaGreatDoor
