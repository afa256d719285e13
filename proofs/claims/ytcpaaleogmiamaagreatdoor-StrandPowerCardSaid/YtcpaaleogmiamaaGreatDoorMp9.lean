/- The walks of a tape's Sync, Cut, Drop. -/
/- The walks of a tape's Cut, Drop. -/
/- The walk of frame.Sum. -/
/- The walks of frame.four, number, Put. -/
import Derived.Test.YtcpaaleogmiamaaGreatDoorMp8
import Derived.Laws.IdiomStrings
import Derived.Lib.EndianBits
import Derived.Laws.BitsAllLaws
namespace Go.Proofs.YtcpaaleogmiamaaGreatDoor
open Go.RowKit

def syncF (f : Fl) : Fl := ⟨f.data, f.data.length⟩
def cutF (k : Nat) (f : Fl) : Fl := ⟨f.data.take k, min f.safe k⟩
def syncT (t : Tp) (n : List UInt8) : Tp × Int :=
  if t.down = true then (t, 10)
  else match fget t.files n with
    | none => (t, 12)
    | some _ => if (actT t).2 = 0 then ({ (actT t).1 with files := updF (actT t).1.files n syncF }, 0) else actT t
def cutT (t : Tp) (n : List UInt8) (k : Int) : Tp × Int :=
  if t.down = true then (t, 10)
  else match fget t.files n with
    | none => (t, 12)
    | some f => if k < 0 ∨ (f.data.length : Int) < k then (t, 1) else actT { t with files := updF t.files n (cutF k.toNat) }
def dropT (t : Tp) (n : List UInt8) : Tp × Int :=
  if t.down = true then (t, 10)
  else match fget t.files n with
    | none => (t, 12)
    | some _ => actT { t with files := t.files.eraseP (fun x => decide (x.1 = n)) }

theorem actT_files (t : Tp) : (actT t).1.files = t.files := by
  unfold actT
  split
  · rfl
  · split
    · rfl
    · rw [offT_files]
theorem actT_code (t : Tp) : (actT t).2 = 0 ∨ (actT t).2 = 10 := by
  unfold actT
  split
  · exact .inl rfl
  · split
    · exact .inl rfl
    · exact .inr rfl
theorem actT_ok {t : Tp} (h : TpOk t) : TpOk (actT t).1 := by
  unfold actT
  split
  · exact h.same rfl rfl (Nat.le_refl _)
  · split
    · exact h.same rfl rfl (Nat.sub_le _ _)
    · exact offT_ok (h.same rfl rfl (Nat.zero_le _))

theorem sum_upd_le {f : Fl → Fl} (hf : ∀ g, (f g).data.length ≤ g.data.length) (n : List UInt8) : ∀ (l : List (List UInt8 × Fl)), dataSum (updF l n f) ≤ dataSum l
  | [] => Nat.le_refl _
  | x :: l => by
    have ih := sum_upd_le hf n l
    have h1 := hf x.2
    by_cases e : x.1 = n
    · simp [dataSum, updF, e] at ih ⊢
      omega
    · simp [dataSum, updF, e] at ih ⊢
      omega
theorem TpOk.upd {t : Tp} (h : TpOk t) {n : List UInt8} {f : Fl → Fl} (h1 : ∀ g, (f g).data.length ≤ g.data.length) (h2 : ∀ g, g.safe ≤ g.data.length → (f g).safe ≤ (f g).data.length) : TpOk { t with files := updF t.files n f } :=
  ⟨h.room, by have h3 := sum_upd_le h1 n t.files; have h4 := h.sum; simp only; omega, by simp only [updF_len]; exact h.few, updF_all (P := fun f => f.safe ≤ f.data.length) h.safe h2, h.armed⟩

theorem find_down {L : TpL} {t : Tp} {n : List UInt8} (hd : t.down = true) : findV L t n = .tuple #[.pointer none, .int .i64 10] := by rw [findV, if_pos hd]
theorem find_none {L : TpL} {t : Tp} {n : List UInt8} (hd : t.down = false) (hg : flGet L n = none) : findV L t n = .tuple #[.pointer none, .int .i64 12] := by rw [findV, if_neg (by rw [hd]; simp), hg]
theorem find_some {L : TpL} {t : Tp} {n : List UInt8} {x : List UInt8 × Nat × Fl} (hd : t.down = false) (hg : flGet L n = some x) : findV L t n = .tuple #[.pointer (some ⟨x.2.1, 0, none⟩), .int .i64 0] := by rw [findV, if_neg (by rw [hd]; simp), hg]; rfl

set_option maxRecDepth 100000 in
set_option maxHeartbeats 1000000 in
theorem TSync_any {w : World} {b mb : Nat} {L : TpL} {t : Tp} (h : TpAt w b mb L t) (n : List UInt8) :
    Calls Tryz.prog 94 #[.pointer (some ⟨b, 0, none⟩), .string (bs n)] w (TpTo w b mb L (syncT t n).1 (.int .i64 (syncT t n).2)) := by
  have HF := Lib.hid (Tfind_any h n)
  have HA := Lib.hid (Tact_any h)
  have hfg : fget t.files n = (flGet L n).map (fun x => x.2.2) := by rw [h.eq]; exact fget_tp L n
  have H := Lib.hid h
  clear h
  cases hd : t.down with
  | true =>
    have hv : syncT t n = (t, 10) := by rw [syncT, if_pos hd]
    rw [find_down hd] at HF
    rw [hv]
    clear hv hfg
    go_enter Tryz.func94, Tryz.ntmps94
    go_wp2_with (first | (go_at_call 131; refine HF.out.mono ?_; rintro _ w1 ⟨rfl, rfl⟩))
    go_ret
    exact TpTo.same H.out
  | false =>
    cases hg : flGet L n with
    | none =>
      rw [hg] at hfg
      have hv : syncT t n = (t, 12) := by rw [syncT, if_neg (by rw [hd]; simp), hfg]; rfl
      rw [find_none hd hg] at HF
      rw [hv]
      clear hv hfg hg
      go_enter Tryz.func94, Tryz.ntmps94
      go_wp2_with (first | (go_at_call 131; refine HF.out.mono ?_; rintro _ w1 ⟨rfl, rfl⟩))
      go_ret
      exact TpTo.same H.out
    | some x =>
      rw [hg] at hfg
      have hv : syncT t n = if (actT t).2 = 0 then ({ (actT t).1 with files := updF (actT t).1.files n syncF }, 0) else actT t := by rw [syncT, if_neg (by rw [hd]; simp), hfg]; rfl
      rw [find_some hd hg] at HF
      have HG := Lib.hid hg
      have HOK := Lib.hid (actT_ok H.out.ok)
      rw [hv]
      clear hv hfg hg hd
      obtain ⟨a, ha⟩ : ∃ a, actT t = a := ⟨_, rfl⟩
      have hco := actT_code t
      rw [ha] at HA HOK hco ⊢
      obtain ⟨t1, c⟩ := a
      simp only at HA HOK hco ⊢
      rcases hco with rfl | rfl
      · rw [if_pos rfl]
        obtain ⟨t2, ht2⟩ : ∃ t2 : Tp, { t1 with files := updF t1.files n syncF } = t2 := ⟨_, rfl⟩
        rw [ht2]
        have HT := Lib.hid ht2
        clear ht2 ha
        go_enter Tryz.func94, Tryz.ntmps94
        go_upto_region 7 with (first | (go_at_call 131; refine HF.out.mono ?_; rintro _ w1 ⟨rfl, rfl⟩) | (go_at_call 103; refine HA.out.mono ?_; rintro _ w4 ⟨rfl, h1, h2⟩))
        have hf2 := h1.fls x (flGet_mem HG.out).1
        have d0 : w4.cell? ⟨x.2.1, 0, none⟩ = some (.string (bs x.2.2.data)) := cells_of hf2 0 _ rfl
        have d2 : w4.cell? ⟨x.2.1, 1, none⟩ = some (.int .i64 (x.2.2.safe : Int)) := cells_of hf2 1 _ rfl
        have d1 : w4.frozen? ⟨x.2.1, 1, none⟩ = false := frozen_of hf2
        have hxz := bs_size x.2.2.data
        obtain ⟨wz, hwz⟩ : ∃ wz, wz = w4.setCell ⟨x.2.1, 1, none⟩ (.int .i64 (x.2.2.data.length : Int)) := ⟨_, rfl⟩
        have hset := upd_set1 w4 x.2.1 1 (.int .i64 (x.2.2.data.length : Int))
        have hfz : wz.heap[x.2.1]? = some (.cells (flCells (syncF x.2.2)) 150 (0, 0)) := by rw [hwz]; exact setCell_same hf2
        have htp := h1.file HG.out syncF (by rw [hwz]; exact hset) hfz (HOK.out.upd (fun g => Nat.le_refl _) (fun g _ => Nat.le_refl _))
        rw [HT.out] at htp
        have huF : Upd (TpF b mb L) w1 wz := by
          rw [hwz]
          exact (h2.or (fun k e => .inl e)).trans (hset.or (fun k e => .inr (.inr (List.mem_map.2 ⟨x, (flGet_mem HG.out).1, e.symm⟩))))
        have HZ := Lib.hid (And.intro htp huF)
        have HWZ := Lib.hid hwz
        clear h1 h2 hf2 hset hfz htp huF hwz
        go_wp2
        go_ret
        rw [← HWZ.out]
        exact ⟨rfl, _, HZ.out.1, HZ.out.2, fun k hk => .inl (by rw [updL_blocks] at hk; exact hk)⟩
      · rw [if_neg (by decide)]
        clear ha
        go_enter Tryz.func94, Tryz.ntmps94
        go_wp2_with (first | (go_at_call 131; refine HF.out.mono ?_; rintro _ w1 ⟨rfl, rfl⟩) | (go_at_call 103; refine HA.out.mono ?_; rintro _ w4 ⟨rfl, h1, h2⟩))
        go_ret
        exact ⟨rfl, L, h1, h2.or (fun k e => .inl e), fun k hk => .inl hk⟩
end Go.Proofs.YtcpaaleogmiamaaGreatDoor
namespace Go.Proofs.YtcpaaleogmiamaaGreatDoor
open Go.RowKit

set_option maxRecDepth 100000 in
set_option maxHeartbeats 2000000 in
theorem TCut_any {w : World} {b mb : Nat} {L : TpL} {t : Tp} (h : TpAt w b mb L t) (n : List UInt8) (k : Int) :
    Calls Tryz.prog 66 #[.pointer (some ⟨b, 0, none⟩), .string (bs n), .int .i64 k] w (TpTo w b mb L (cutT t n k).1 (.int .i64 (cutT t n k).2)) := by
  have HF := Lib.hid (Tfind_any h n)
  have hfg : fget t.files n = (flGet L n).map (fun x => x.2.2) := by rw [h.eq]; exact fget_tp L n
  have H := Lib.hid h
  clear h
  cases hd : t.down with
  | true =>
    have hv : cutT t n k = (t, 10) := by rw [cutT, if_pos hd]
    rw [find_down hd] at HF
    rw [hv]
    clear hv hfg
    go_enter Tryz.func66, Tryz.ntmps66
    go_wp2_with (first | (go_at_call 131; refine HF.out.mono ?_; rintro _ w1 ⟨rfl, rfl⟩))
    go_ret
    exact TpTo.same H.out
  | false =>
    cases hg : flGet L n with
    | none =>
      rw [hg] at hfg
      have hv : cutT t n k = (t, 12) := by rw [cutT, if_neg (by rw [hd]; simp), hfg]; rfl
      rw [find_none hd hg] at HF
      rw [hv]
      clear hv hfg hg
      go_enter Tryz.func66, Tryz.ntmps66
      go_wp2_with (first | (go_at_call 131; refine HF.out.mono ?_; rintro _ w1 ⟨rfl, rfl⟩))
      go_ret
      exact TpTo.same H.out
    | some x =>
      rw [hg] at hfg
      have hv : cutT t n k = if k < 0 ∨ (x.2.2.data.length : Int) < k then (t, 1) else actT { t with files := updF t.files n (cutF k.toNat) } := by rw [cutT, if_neg (by rw [hd]; simp), hfg]; rfl
      rw [find_some hd hg] at HF
      have HG := Lib.hid hg
      have hf2 := H.out.fls x (flGet_mem hg).1
      have d0 : w.cell? ⟨x.2.1, 0, none⟩ = some (.string (bs x.2.2.data)) := cells_of hf2 0 _ rfl
      have d2 : w.cell? ⟨x.2.1, 1, none⟩ = some (.int .i64 (x.2.2.safe : Int)) := cells_of hf2 1 _ rfl
      have d1 : w.frozen? ⟨x.2.1, 0, none⟩ = false := frozen_of hf2
      have d3 : w.frozen? ⟨x.2.1, 1, none⟩ = false := frozen_of hf2
      have hxz := bs_size x.2.2.data
      rw [hv]
      have HF2 := Lib.hid hf2
      clear hv hfg hg hf2
      by_cases hk0 : k < 0
      · rw [if_pos (.inl hk0)]
        go_enter Tryz.func66, Tryz.ntmps66
        go_wp2_with (first | (go_at_call 131; refine HF.out.mono ?_; rintro _ w1 ⟨rfl, rfl⟩))
        go_ret
        exact TpTo.same H.out
      · by_cases hk1 : (x.2.2.data.length : Int) < k
        · rw [if_pos (.inr hk1)]
          have hk2 : ((bs x.2.2.data).size : Int) < k := by rw [hxz]; exact hk1
          go_enter Tryz.func66, Tryz.ntmps66
          go_wp2_with (first | (go_at_call 131; refine HF.out.mono ?_; rintro _ w1 ⟨rfl, rfl⟩))
          go_ret
          exact TpTo.same H.out
        · rw [if_neg (by rintro (h | h); exact hk0 h; exact hk1 h)]
          obtain ⟨m, hm⟩ : ∃ m : Nat, k = m := ⟨k.toNat, by omega⟩
          subst hm
          simp only [Int.toNat_natCast]
          have hmx : m ≤ x.2.2.data.length := by omega
          obtain ⟨t1, ht1⟩ : ∃ t1 : Tp, { t with files := updF t.files n (cutF m) } = t1 := ⟨_, rfl⟩
          rw [ht1]
          have hok : TpOk { t with files := updF t.files n (cutF m) } := H.out.ok.upd (fun g => by simp [cutF]; omega) (fun g hg => by simp [cutF]; omega)
          have hmin : min (x.2.2.safe : Int) (m : Int) = ((min x.2.2.safe m : Nat) : Int) := by omega
          have hex : (bs x.2.2.data).extract 0 m = bs (x.2.2.data.take m) := by rw [bs_extract]; simp
          have g1 : (m : Int) ≤ ((bs x.2.2.data).size : Int) := by rw [hxz]; omega
          have g0 : (0 : Int) ≤ (m : Int) := by omega
          have hfin : ∀ wz, wz = ((w.setCell ⟨x.2.1, 0, none⟩ (.string (bs (x.2.2.data.take m)))).setCell ⟨x.2.1, 1, none⟩ (.int .i64 ((min x.2.2.safe m : Nat) : Int))) → TpAt wz b mb (updL L n (cutF m)) t1 ∧ Upd (TpF b mb L) w wz := by
            intro wz hwz
            have hset := (upd_set1 w x.2.1 0 (.string (bs (x.2.2.data.take m)))).trans (upd_set1 _ x.2.1 1 (.int .i64 ((min x.2.2.safe m : Nat) : Int)))
            have hfz : wz.heap[x.2.1]? = some (.cells (flCells (cutF m x.2.2)) 150 (0, 0)) := by rw [hwz]; exact setCell_same (setCell_same HF2.out)
            have htp := H.out.file HG.out (cutF m) (by rw [hwz]; exact hset) hfz hok
            rw [ht1] at htp
            exact ⟨htp, by rw [hwz]; exact hset.or (fun k e => .inr (.inr (List.mem_map.2 ⟨x, (flGet_mem HG.out).1, e.symm⟩)))⟩
          have HFIN := Lib.hid hfin
          clear hfin hok ht1
          go_enter Tryz.func66, Tryz.ntmps66
          go_upto_region 6 with (first | (go_at_call 131; refine HF.out.mono ?_; rintro _ w1 ⟨rfl, rfl⟩))
          go_region
          all_goals
            go_wp2_with (first | (go_at_call 103; refine (Tact_any ((HFIN.out _ rfl).1.below (Below.refl _ _).drew)).mono ?_; rintro _ w4 ⟨rfl, h1, h2⟩))
            go_ret
            exact TpTo.act ((HFIN.out _ rfl).2.trans (upd_drew _ _)) (fun k hk => .inl (by rw [updL_blocks] at hk; exact hk)) ⟨rfl, h1, h2⟩

theorem map_eraseP {α β : Type} (f : α → β) (p : β → Bool) : ∀ (l : List α), (l.map f).eraseP p = (l.eraseP (fun x => p (f x))).map f
  | [] => rfl
  | a :: l => by
    by_cases h : p (f a) = true
    · rw [List.map_cons, List.eraseP_cons_of_pos h, List.eraseP_cons_of_pos (p := fun x => p (f x)) h]
    · rw [List.map_cons, List.eraseP_cons_of_neg h, List.eraseP_cons_of_neg (p := fun x => p (f x)) h, map_eraseP f p l]; rfl

/-- A file is gone. -/
theorem TpAt.gone {w w' : World} {b mb : Nat} {L : TpL} {t : Tp} (h : TpAt w b mb L t) (n : List UInt8) (hm : MapSt w' mb (sdel (tpMap L) n)) (hu : Upd (fun k => k = mb) w w')
    : TpAt w' b mb (L.eraseP (fun x => decide (x.1 = n))) { t with files := t.files.eraseP (fun x => decide (x.1 = n)) } := by
  obtain ⟨n1, n2, n3⟩ := h.ne_map
  have hsub : (L.eraseP (fun x => decide (x.1 = n))).Sublist L := List.eraseP_sublist
  refine ⟨(hu.block b h.blkLt n1).trans h.blk, ?_, ?_, (hsub.map _).nodup h.apart, ?_, ?_⟩
  · have : sdel (tpMap L) n = tpMap (L.eraseP (fun x => decide (x.1 = n))) := by
      unfold sdel tpMap
      rw [map_eraseP]
    rw [← this]
    exact hm
  · intro x hx
    have hx2 := hsub.subset hx
    exact (hu.block _ (Array.getElem?_eq_some_iff.1 (h.fls x hx2)).1 (fun e => n2 (List.mem_map.2 ⟨x, hx2, e⟩))).trans (h.fls x hx2)
  · rw [h.eq]
    unfold tpFiles
    rw [map_eraseP]
  · have hs2 : (t.files.eraseP (fun x => decide (x.1 = n))).Sublist t.files := List.eraseP_sublist
    refine ⟨h.ok.room, ?_, Nat.le_trans hs2.length_le h.ok.few, fun x hx => h.ok.safe x (hs2.subset hx), h.ok.armed⟩
    have h1 : dataSum (t.files.eraseP (fun x => decide (x.1 = n))) ≤ dataSum t.files := by
      have : ∀ (l : List (List UInt8 × Fl)), dataSum (l.eraseP (fun x => decide (x.1 = n))) ≤ dataSum l := by
        intro l
        induction l with
        | nil => exact Nat.le_refl _
        | cons a l ih =>
          by_cases e : a.1 = n
          · rw [List.eraseP_cons_of_pos (by simpa using e)]
            simp [dataSum]
          · rw [List.eraseP_cons_of_neg (by simpa using e)]
            simp [dataSum] at ih ⊢
            omega
      exact this _
    have h2 := h.ok.sum
    simp only
    omega

set_option maxRecDepth 100000 in
set_option maxHeartbeats 2000000 in
theorem TDrop_any {w : World} {b mb : Nat} {L : TpL} {t : Tp} (h : TpAt w b mb L t) (n : List UInt8) :
    Calls Tryz.prog 95 #[.pointer (some ⟨b, 0, none⟩), .string (bs n)] w (TpTo w b mb L (dropT t n).1 (.int .i64 (dropT t n).2)) := by
  have HF := Lib.hid (Tfind_any h n)
  have hfg : fget t.files n = (flGet L n).map (fun x => x.2.2) := by rw [h.eq]; exact fget_tp L n
  have c0 := h.cells.1
  have H := Lib.hid h
  cases hd : t.down with
  | true =>
    have hv : dropT t n = (t, 10) := by rw [dropT, if_pos hd]
    rw [find_down hd] at HF
    rw [hv]
    clear hv hfg h
    go_enter Tryz.func95, Tryz.ntmps95
    go_wp2_with (first | (go_at_call 131; refine HF.out.mono ?_; rintro _ w1 ⟨rfl, rfl⟩))
    go_ret
    exact TpTo.same H.out
  | false =>
    cases hg : flGet L n with
    | none =>
      rw [hg] at hfg
      have hv : dropT t n = (t, 12) := by rw [dropT, if_neg (by rw [hd]; simp), hfg]; rfl
      rw [find_none hd hg] at HF
      rw [hv]
      clear hv hfg hg h
      go_enter Tryz.func95, Tryz.ntmps95
      go_wp2_with (first | (go_at_call 131; refine HF.out.mono ?_; rintro _ w1 ⟨rfl, rfl⟩))
      go_ret
      exact TpTo.same H.out
    | some x =>
      rw [hg] at hfg
      have hv : dropT t n = actT { t with files := t.files.eraseP (fun x => decide (x.1 = n)) } := by rw [dropT, if_neg (by rw [hd]; simp), hfg]; rfl
      rw [find_some hd hg] at HF
      obtain ⟨w3, hdl, hm3, hu3⟩ := run_delete_strs und_mapFile und_str h.map n 0
      have hdl' : ∀ ty, (Builtin.delete_ #[127, 9] ty #[.map (some mb), .string (bs n)]).run Tryz.prog w = .ok (.tuple #[]) w3 := fun ty => hdl
      have htp := h.gone n hm3 hu3
      rw [hv]
      have HA := Lib.hid (Tact_any htp)
      have HU := Lib.hid hu3
      clear hv hfg hg h hd htp hu3 hm3 hdl
      obtain ⟨t1, ht1⟩ : ∃ t1 : Tp, { t with files := t.files.eraseP (fun x => decide (x.1 = n)) } = t1 := ⟨_, rfl⟩
      rw [ht1] at HA ⊢
      clear ht1
      go_enter Tryz.func95, Tryz.ntmps95
      go_wp2_with (first | (go_at_call 131; refine HF.out.mono ?_; rintro _ w1 ⟨rfl, rfl⟩) | (go_at_call 103; refine HA.out.mono ?_; rintro _ w4 ⟨rfl, h1, h2⟩))
      go_ret
      exact TpTo.act (HU.out.or (fun k e => .inr (.inl e))) (fun k hk => .inl ((List.eraseP_sublist.map _).subset hk)) ⟨rfl, h1, h2⟩
end Go.Proofs.YtcpaaleogmiamaaGreatDoor
namespace Go.Proofs.YtcpaaleogmiamaaGreatDoor
open Go.RowKit

/-- A bit of a text's check. -/
def crcS (y : Int) : Int := bits BinOp.xor IntKind.u32 (y / 2) (bits BinOp.and IntKind.u32 3988292384 (-bits BinOp.and IntKind.u32 y 1 % 4294967296))
def crcN : Nat → Int → Int
  | 0, y => y
  | n + 1, y => crcS (crcN n y)
def crcB (x : Int) (c : UInt8) : Int := crcN 8 (bits BinOp.xor IntKind.u32 x (c.toNat : Int))
def crcP (s : List UInt8) : Int := s.foldl crcB 4294967295

def sumB (s : List UInt8) : Int := bits BinOp.xor IntKind.u32 IntKind.u32.max (crcP s)

theorem bytes_row (s : List UInt8) (cap k : Nat) (hk : k < s.length) : (bytesRow (bs s) cap)[k]? = some (.int .u8 (s[k].toNat : Int)) := by
  unfold bytesRow
  have h1 : (bs s).data = s.toArray := rfl
  rw [h1, Array.getElem?_append_left (by simpa using hk)]
  simp [hk]

set_option maxRecDepth 100000 in
set_option maxHeartbeats 1000000 in
theorem FrSum_any (s : List UInt8) (hs : s.length ≤ 140737488355328) (w : World) : Calls Tryz.prog 168 #[.string (bs s)] w fun e w' => e = .returned (.int .u32 (sumB s)) ∧ Below w.heap.size w w' := by
  have hcv := run_bytes_of_string (P := Tryz.prog) w 9 210 5 (bs s) (by kernel_rfl) (by kernel_rfl) (by kernel_rfl)
  go_enter Tryz.func168, Tryz.ntmps168
  go_upto_region 2 with fail
  go_wp2
  obtain ⟨wc, hwc⟩ : ∃ wc, wc = (w.alloc (.cells (bytesRow (bs s) (grownCap w (bs s).size 0 5)) 5 ((bytesRow (bs s) (grownCap w (bs s).size 0 5)).size, (bytesRow (bs s) (grownCap w (bs s).size 0 5)).size + 1))).drew := ⟨_, rfl⟩
  rw [← hwc]
  have hcell : ∀ k (hk : k < s.length), wc.cell? ⟨w.heap.size, k, none⟩ = some (.int .u8 ((s[k]).toNat : Int)) := by
    intro k hk
    rw [hwc]
    exact cells_of (show (w.alloc (.cells (bytesRow (bs s) (grownCap w (bs s).size 0 5)) 5 ((bytesRow (bs s) (grownCap w (bs s).size 0 5)).size, (bytesRow (bs s) (grownCap w (bs s).size 0 5)).size + 1))).heap[w.heap.size]? = _ from heap_alloc_new w _) k _ (bytes_row s _ k hk)
  have hbel : Below w.heap.size w wc := by rw [hwc]; exact (below_alloc w _).drew
  have HC := Lib.hid hcell
  have HB := Lib.hid hbel
  have hsz := bs_size s
  clear hwc hcell hbel hcv
  go_loopg [3, 9] s.length (fun gk r i wr => ∃ (k : Nat), k ≤ s.length ∧ gk = s.length - k ∧ i = .int .i64 k ∧ r = .int .u32 (crcP (s.take k)) ∧ wr = wc)
  case atStart => exact ⟨0, Nat.zero_le _, rfl, rfl, rfl, rfl⟩
  case round =>
    obtain ⟨k, hk, rfl, rfl, rfl, rfl⟩ := hrel
    by_cases hlt : k < s.length
    · have i1 : (k : Int) < (s.length : Int) := by omega
      have i0 : (0 : Int) ≤ (k : Int) := by omega
      have i2 : (k : Int) < ((bs s).size : Int) := by rw [hsz]; omega
      have hc := HC.out k hlt
      have htk : crcP (s.take (k + 1)) = crcN 8 (bits BinOp.xor IntKind.u32 (crcP (s.take k)) ((s[k]).toNat : Int)) := by
        unfold crcP
        rw [List.take_succ_eq_append_getElem hlt, List.foldl_append]
        rfl
      have HT := Lib.hid htk
      clear htk
      generalize s[k] = c at *
      generalize crcP (s.take k) = x at *
      have hcw : IntKind.u32.wrap (c.toNat : Int) = (c.toNat : Int) := IntWalk.u32_in _ (by have := c.toNat_lt; omega)
      go_upto_region 6 with fail
      go_wp2
      generalize bits BinOp.xor IntKind.u32 x (c.toNat : Int) = x0 at *
      go_loopg [3, 17] 8 (fun gk r i wy => ∃ (j : Nat), j ≤ 8 ∧ gk = 8 - j ∧ i = .int .i64 j ∧ r = .int .u32 (crcN j x0) ∧ wy = wr)
      case atStart => exact ⟨0, Nat.zero_le _, rfl, rfl, rfl, rfl⟩
      case round =>
        obtain ⟨j, hj, rfl, rfl, rfl, rfl⟩ := hrel
        by_cases hj8 : j < 8
        · have i18 : (j : Int) < 8 := by omega
          have hst : crcN (j + 1) x0 = crcS (crcN j x0) := rfl
          have HST := Lib.hid hst
          clear hst
          generalize crcN j x0 = y at *
          go_wp2
          go_roundg (8 - (j + 1))
          case measure => omega
          case rel => exact ⟨j + 1, by omega, rfl, by go_num, by rw [HST.out]; rfl, rfl⟩
        · have hj9 : j = 8 := by omega
          subst hj9
          go_wp2
          go_roundg (s.length - (k + 1))
          case measure => omega
          case rel => exact ⟨k + 1, by omega, rfl, by go_num, by rw [HT.out], rfl⟩
    · have hkl : k = s.length := by omega
      subst hkl
      rw [List.take_length]
      go_wp2
      go_ret
      exact ⟨rfl, HB.out⟩
end Go.Proofs.YtcpaaleogmiamaaGreatDoor
namespace Go.Proofs.YtcpaaleogmiamaaGreatDoor
open Go.RowKit

def fourB (n : Nat) : List UInt8 := [UInt8.ofNat (n % 256), UInt8.ofNat (n / 256 % 256), UInt8.ofNat (n / 65536 % 256), UInt8.ofNat (n / 16777216 % 256)]
def numB : List UInt8 → Nat
  | a :: b :: c :: d :: _ => a.toNat + 256 * b.toNat + 65536 * c.toNat + 16777216 * d.toNat
  | _ => 0
theorem num_four {n : Nat} (h : n < 4294967296) (r : List UInt8) : numB (fourB n ++ r) = n := by
  simp only [fourB, List.cons_append, List.nil_append, numB, UInt8.toNat_ofNat']
  omega
theorem fourB_len (n : Nat) : (fourB n).length = 4 := rfl

theorem sumB_range (s : List UInt8) : 0 ≤ sumB s ∧ sumB s < 4294967296 := by
  have h : ∀ z, sumB s = IntKind.u32.wrap z → 0 ≤ sumB s ∧ sumB s < 4294967296 := by
    intro z e
    rw [e, IntKind.wrap_u32]
    omega
  exact h _ rfl
/-- A text's check. -/
def sumN (s : List UInt8) : Nat := (sumB s).toNat
theorem sumN_eq (s : List UInt8) : sumB s = (sumN s : Int) := by have := sumB_range s; unfold sumN; omega
theorem sumN_lt (s : List UInt8) : sumN s < 4294967296 := by have := sumB_range s; unfold sumN; omega

set_option maxRecDepth 100000 in
theorem FrFour_any (n : Nat) (w : World) : Calls Tryz.prog 177 #[.int .u32 (n : Int)] w fun e w' => e = .returned (.string (bs (fourB n))) ∧ Below w.heap.size w w' := by
  have hcell : ∀ T, ∀ j (hj : j < (fourB n).length), (w.alloc (.cells #[.int .u8 ((n : Int) % 256), .int .u8 ((n : Int) / 256 % 256), .int .u8 ((n : Int) / 65536 % 256), .int .u8 ((n : Int) / 16777216 % 256)] T)).cell? ((⟨w.heap.size, 0, none⟩ : Addr).add j) = some (.int .u8 ((fourB n)[j].toNat : Int)) := by
    intro T j hj
    rw [Addr.add_lit, Nat.zero_add, cell_of_row _ _ _ _ _ _ (heap_alloc_new w _)]
    have hj4 : j < 4 := hj
    match j, hj4 with
    | 0, _ => simp [fourB]
    | 1, _ => simp [fourB]
    | 2, _ => simp [fourB]
    | 3, _ => simp [fourB]
  have hcv := fun T => run_convert_bytes_back (P := Tryz.prog) (w.alloc (.cells #[.int .u8 ((n : Int) % 256), .int .u8 ((n : Int) / 256 % 256), .int .u8 ((n : Int) / 65536 % 256), .int .u8 ((n : Int) / 16777216 % 256)] T)) 210 9 5 ⟨w.heap.size, 0, none⟩ 4 (fourB n) (by kernel_rfl) (by kernel_rfl) (by kernel_rfl) (hcell T)
  have hcv' : ∀ T, (convert 210 9 (.slice (some ⟨w.heap.size, 0, none⟩) 4 4)).run Tryz.prog (w.alloc (.cells #[.int .u8 ((n : Int) % 256), .int .u8 ((n : Int) / 256 % 256), .int .u8 ((n : Int) / 65536 % 256), .int .u8 ((n : Int) / 16777216 % 256)] T)) = .ok (.string (bs (fourB n))) (w.alloc (.cells #[.int .u8 ((n : Int) % 256), .int .u8 ((n : Int) / 256 % 256), .int .u8 ((n : Int) / 65536 % 256), .int .u8 ((n : Int) / 16777216 % 256)] T)) := hcv
  clear hcv hcell
  go_enter Tryz.func177, Tryz.ntmps177
  go_wp2
  refine wp_loop_rounds 5 ?_
  rw [rounds_succ]
  go_wp2
  rw [rounds_succ]
  go_wp2
  rw [rounds_succ]
  go_wp2
  rw [rounds_succ]
  go_wp2
  rw [rounds_succ]
  go_wp2
  go_ret
  exact ⟨rfl, below_alloc _ _⟩

theorem or_all (a b c d : UInt8) : bits BinOp.or IntKind.u32 (bits BinOp.or IntKind.u32 (bits BinOp.or IntKind.u32 (bits BinOp.or IntKind.u32 0 ((a.toNat : Int) % 4294967296)) ((b.toNat : Int) % 4294967296 * 256 % 4294967296)) ((c.toNat : Int) % 4294967296 * 65536 % 4294967296)) ((d.toNat : Int) % 4294967296 * 16777216 % 4294967296) = ((a.toNat + 256 * b.toNat + 65536 * c.toNat + 16777216 * d.toNat : Nat) : Int) := by
  have ha := a.toNat_lt
  have hb := b.toNat_lt
  have hc := c.toNat_lt
  have hd := d.toNat_lt
  have ha' : a.toNat < 256 := ha
  have hb' : b.toNat < 256 := hb
  have hc' : c.toNat < 256 := hc
  have hd' : d.toNat < 256 := hd
  have e1 : bits BinOp.or IntKind.u32 0 ((a.toNat : Int) % 4294967296) = (a.toNat : Int) := by
    rw [show (a.toNat : Int) % 4294967296 = (a.toNat : Int) by omega]
    have := u32_or_nat 0 a.toNat (by omega) (by omega)
    simpa using this
  have e2 : bits BinOp.or IntKind.u32 (a.toNat : Int) ((b.toNat : Int) * 256) = (a.toNat : Int) + (b.toNat : Int) * 256 := u32_or8 _ _ (by omega) (by omega) (by omega) (by omega) (by omega)
  have e3 : bits BinOp.or IntKind.u32 ((a.toNat : Int) + (b.toNat : Int) * 256) ((c.toNat : Int) * 65536) = (a.toNat : Int) + (b.toNat : Int) * 256 + (c.toNat : Int) * 65536 := u32_or16 _ _ (by omega) (by omega) (by omega) (by omega) (by omega)
  have e4 : bits BinOp.or IntKind.u32 ((a.toNat : Int) + (b.toNat : Int) * 256 + (c.toNat : Int) * 65536) ((d.toNat : Int) * 16777216) = (a.toNat : Int) + (b.toNat : Int) * 256 + (c.toNat : Int) * 65536 + (d.toNat : Int) * 16777216 := u32_or24 _ _ (by omega) (by omega) (by omega) (by omega) (by omega)
  rw [e1, show (b.toNat : Int) % 4294967296 * 256 % 4294967296 = (b.toNat : Int) * 256 by omega, e2]
  rw [show (c.toNat : Int) % 4294967296 * 65536 % 4294967296 = (c.toNat : Int) * 65536 by omega, e3]
  rw [show (d.toNat : Int) % 4294967296 * 16777216 % 4294967296 = (d.toNat : Int) * 16777216 by omega, e4]
  omega

set_option maxRecDepth 100000 in
theorem FrNumber_any (a b c d : UInt8) (r : List UInt8) (w : World) : Calls Tryz.prog 167 #[.string (bs (a :: b :: c :: d :: r))] w fun e w' => e = .returned (.int .u32 (numB (a :: b :: c :: d :: r) : Int)) ∧ w' = w := by
  have e0 : ∀ h, (bs (a :: b :: c :: d :: r))[0]'h = a := fun h => by rw [bs_get]; rfl
  have e1 : ∀ h, (bs (a :: b :: c :: d :: r))[1]'h = b := fun h => by rw [bs_get]; rfl
  have e2 : ∀ h, (bs (a :: b :: c :: d :: r))[2]'h = c := fun h => by rw [bs_get]; rfl
  have e3 : ∀ h, (bs (a :: b :: c :: d :: r))[3]'h = d := fun h => by rw [bs_get]; rfl
  have hz : (bs (a :: b :: c :: d :: r)).size = r.length + 4 := by rw [bs_size]; simp
  have s0 : (0 : Int) < ((bs (a :: b :: c :: d :: r)).size : Int) := by rw [hz]; omega
  have s1 : (1 : Int) < ((bs (a :: b :: c :: d :: r)).size : Int) := by rw [hz]; omega
  have s2 : (2 : Int) < ((bs (a :: b :: c :: d :: r)).size : Int) := by rw [hz]; omega
  have s3 : (3 : Int) < ((bs (a :: b :: c :: d :: r)).size : Int) := by rw [hz]; omega
  have HO := Lib.hid (or_all a b c d)
  go_enter Tryz.func167, Tryz.ntmps167
  go_wp2
  refine wp_loop_rounds 5 ?_
  rw [rounds_succ]
  go_wp2
  rw [rounds_succ]
  go_wp2
  rw [rounds_succ]
  go_wp2
  rw [rounds_succ]
  go_wp2
  rw [rounds_succ]
  go_wp2
  go_ret
  exact ⟨congrArg (fun z => Ending.returned (.int .u32 z)) HO.out, rfl⟩

/-- A text's frame. -/
def frameB (s : List UInt8) : List UInt8 := fourB s.length ++ (fourB (sumN s) ++ s)

set_option maxRecDepth 100000 in
set_option maxHeartbeats 1000000 in
theorem FrPut_any (s : List UInt8) (hs : s.length ≤ 16384) (w : World) : Calls Tryz.prog 137 #[.string (bs s)] w fun e w' => e = .returned (.tuple #[.string (bs (frameB s)), .int .i64 0]) ∧ Below w.heap.size w w' := by
  have hsz := bs_size s
  have e0 : ¬ (16384 : Int) < ((bs s).size : Int) := by rw [hsz]; omega
  have ew : IntKind.u32.wrap ((bs s).size : Int) = (s.length : Int) := by rw [hsz]; exact IntWalk.u32_in _ (by omega)
  have ew' : IntKind.u32.wrap (s.length : Int) = (s.length : Int) := IntWalk.u32_in _ (by omega)
  have HF1 := Lib.hid (fun W => FrFour_any s.length W)
  have HF2 := Lib.hid (fun W => FrFour_any (sumN s) W)
  have hsm := fun W => FrSum_any s (by omega) W
  rw [sumN_eq] at hsm
  have HS := Lib.hid hsm
  have z1 : (bs (fourB s.length)).size = 4 := by rw [bs_size]; rfl
  have z2 : (bs (fourB (sumN s))).size = 4 := by rw [bs_size]; rfl
  have k1 : ¬ 9223372036854775807 < 4 + 4 + s.length := by omega
  have k2 : ¬ 9223372036854775807 < 8 + s.length := by omega
  have hcat : bs (fourB s.length) ++ bs (fourB (sumN s)) ++ bs s = bs (frameB s) := by rw [bs_append, bs_append]; simp [frameB]
  have HC := Lib.hid hcat
  clear hsm hcat
  generalize sumN s = m at *
  go_enter Tryz.func137, Tryz.ntmps137
  go_wp2_with (first
    | (go_at_call 177; with_reducible refine (HF1.out _).mono ?_; rintro _ w1 ⟨rfl, hb1⟩)
    | (go_at_call 168; refine (HS.out _).mono ?_; rintro _ w2 ⟨rfl, hb2⟩)
    | (go_at_call 177; with_reducible refine (HF2.out _).mono ?_; rintro _ w3 ⟨rfl, hb3⟩))
  refine bodyPost_ret (v := .tuple #[.string (bs (frameB s)), .int .i64 0]) ?_ rfl ⟨rfl, below_trans hb1 (below_trans hb2 hb3)⟩
  rw [← HC.out]
  simp [results, Tryz.results137, go_sem]
end Go.Proofs.YtcpaaleogmiamaaGreatDoor
