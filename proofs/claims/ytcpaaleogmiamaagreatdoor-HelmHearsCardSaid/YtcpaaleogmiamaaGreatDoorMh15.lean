/- The walks of plan.Encode and plan.Decode. -/
/- The walks of a tape's Sync, Cut, Drop. -/
import Derived.Test.YtcpaaleogmiamaaGreatDoorMh14
import Derived.Test.YtcpaaleogmiamaaGreatDoorMh5
import Derived.Test.YtcpaaleogmiamaaGreatDoorMh9
namespace Go.Proofs.YtcpaaleogmiamaaGreatDoor
open Go.RowKit

theorem encP_le {n : Int} (h : I64 n) : (encI n).length ≤ 23 := by
  have := Lib.itoa_length_le n h.1 h.2
  simp only [encI, List.length_cons, List.length_append, List.length_nil]
  omega

theorem strs_of_alloc (w : World) (xs : List (List UInt8)) (hx : xs.length ≤ 1000) : Strs (w.alloc (.cells (xs.map (fun l => Value.string (bs l))).toArray 9)) (.slice (some ⟨w.heap.size, 0, none⟩) xs.length xs.length) xs := by
  have h : (w.alloc (.cells (xs.map (fun l => Value.string (bs l))).toArray 9)).ownsRow w.heap.size 9 1 (.slice (some ⟨w.heap.size, 0, none⟩) xs.length xs.length) xs.length (xs.map (fun l => Value.string (bs l))) :=
    ⟨by simp, .inr ⟨w.heap.size, xs.length, _, rfl, Nat.le_refl _, heap_alloc_new _ _, Nat.le_refl _, by unfold maxLen; omega, by simp, by rw [List.take_of_length_le (by simp)]⟩⟩
  exact (Sl.of_owns h).rd

def encOut (x : Event) (w : World) (e : Ending) (w' : World) : Prop :=
  e = .returned (if eventB x = true then .tuple #[.string (bs (encE x)), .int .i64 0] else .tuple #[.string (bs []), .int .i64 1]) ∧ Below w.heap.size w w'

set_option maxRecDepth 100000 in
set_option maxHeartbeats 4000000 in
theorem Encode_any (x : Event) {w : World} (hE : Env w) : Calls Tryz.prog 136 #[x.v] w (encOut x w) := by
  have hiE := isEvent_any x
  unfold encOut
  cases hb : eventB x
  · rw [hb] at hiE
    simp only [Event.v] at hiE ⊢
    have HI := Lib.hid hiE
    clear hiE hb
    obtain ⟨k, nd, pt, cn⟩ := x
    simp only at HI ⊢
    go_enter Tryz.func136, Tryz.ntmps136
    go_wp2_with (first | (go_at_call 79; refine (HI.out _).mono ?_; rintro _ w5 ⟨rfl, hb5⟩))
    exact bodyPost_ret (v := .tuple #[.string (bs []), .int .i64 1]) (by simp [results, Tryz.results136, go_sem, bs]) rfl ⟨by simp, below_trans (below_alloc _ _) hb5⟩
  · rw [hb] at hiE
    obtain ⟨k1, k2, k3, k4⟩ := eventB_I64 hb
    have henc : encE x = 108 :: ([encI x.kind, encI x.node, encI x.part, encI x.n].flatten ++ [101]) := by simp [encE]
    simp only [Event.v] at hiE ⊢
    obtain ⟨k, nd, pt, cn⟩ := x
    simp only at *
    have HI := Lib.hid hiE
    have l0 := encP_le k1
    have l1 := encP_le k2
    have l2 := encP_le k3
    have l3 := encP_le k4
    obtain ⟨wa, hwa⟩ : ∃ wa, wa = w.alloc (.cells #[.int .i64 k, .int .i64 nd, .int .i64 pt, .int .i64 cn] 58) := ⟨_, rfl⟩
    have hx : wa.heap[w.heap.size]? = some (.cells #[.int .i64 k, .int .i64 nd, .int .i64 pt, .int .i64 cn] 58 (0, 0)) := by rw [hwa]; exact heap_alloc_new _ _
    have hb1 : Below w.heap.size w wa := by rw [hwa]; exact below_alloc _ _
    have hsz : wa.heap.size = w.heap.size + 1 := by rw [hwa]; simp
    have hkeep : ∀ W, Below wa.heap.size wa W → W.cell? ⟨w.heap.size, 0, none⟩ = some (.int .i64 k) ∧ W.cell? ⟨w.heap.size, 1, none⟩ = some (.int .i64 nd) ∧ W.cell? ⟨w.heap.size, 2, none⟩ = some (.int .i64 pt) ∧ W.cell? ⟨w.heap.size, 3, none⟩ = some (.int .i64 cn) := by
      intro W hb
      have h3 := (hb.block w.heap.size (by omega)).trans hx
      exact ⟨cells_of h3 0 _ rfl, cells_of h3 1 _ rfl, cells_of h3 2 _ rfl, cells_of h3 3 _ rfl⟩
    have bi : ∀ n W, I64 n → Below wa.heap.size wa W → Calls Tryz.prog 176 #[.int .i64 n] W fun e w2 => e = .returned (.string (bs (encI n))) ∧ Below wa.heap.size wa w2 := by
      intro n W hn hb
      refine (BInt_any hn W ((hE.below hb1).below hb)).mono ?_
      rintro e w2 ⟨he, hb2⟩
      exact ⟨he, hb.trans (hb2.mono hb.size)⟩
    have bl : ∀ W, Below wa.heap.size wa W → Calls Tryz.prog 175 #[.slice (some ⟨W.heap.size, 0, none⟩) 4 4] (W.alloc (.cells #[.string (bs (encI k)), .string (bs (encI nd)), .string (bs (encI pt)), .string (bs (encI cn))] 9)) fun e w2 => e = .returned (.string (bs (encE ⟨k, nd, pt, cn⟩))) ∧ Below wa.heap.size wa w2 := by
      intro W hb
      refine (BList_any (xs := [encI k, encI nd, encI pt, encI cn]) (strs_of_alloc W [encI k, encI nd, encI pt, encI cn] (by simp)) (by simp) (by simp; omega)).mono ?_
      rintro e w2 ⟨rfl, hb2⟩
      have hz := hb.size
      exact ⟨by rw [henc], hb.trans ((below_alloc W _).mono hz |>.trans (hb2.mono (by simp; omega)))⟩
    have HBI := Lib.hid bi
    have HBL := Lib.hid bl
    have HK := Lib.hid hkeep
    have H1 := Lib.hid (And.intro hb1 hsz)
    have K1 := Lib.hid (And.intro k1 (And.intro k2 (And.intro k3 k4)))
    obtain ⟨x0, x1, x2, x3⟩ := hkeep wa (Below.refl _ _)
    clear hkeep bi bl hiE henc hx hb1 hsz hE k1 k2 k3 k4 l0 l1 l2 l3 hb
    go_enter Tryz.func136, Tryz.ntmps136
    go_upto_region 1 with fail
    rw [← hwa]
    clear hwa
    go_upto_region 3 with (first | (go_at_call 79; refine (HI.out _).mono ?_; rintro _ w5 ⟨rfl, hb5⟩))
    have HB5 := Lib.hid hb5
    obtain ⟨y0, y1, y2, y3⟩ := HK.out w5 hb5
    clear x0 x1 x2 x3
    obtain ⟨k1, k2, k3, k4⟩ := K1.out
    go_region_held3 (fun w' => w'.cell? ⟨w.heap.size, 0, none⟩ = some (.int .i64 k) ∧ w'.cell? ⟨w.heap.size, 1, none⟩ = some (.int .i64 nd) ∧ w'.cell? ⟨w.heap.size, 2, none⟩ = some (.int .i64 pt) ∧ w'.cell? ⟨w.heap.size, 3, none⟩ = some (.int .i64 cn))
      (first | with_reducible exact HK.out _ HB5.out | with_reducible exact HK.out _ HB5.out.drew | (have hg := hb6; first | with_reducible exact HK.out _ hb6 | with_reducible exact HK.out _ hb6.drew) | (have hg := hb7; first | with_reducible exact HK.out _ hb7 | with_reducible exact HK.out _ hb7.drew) | (have hg := hb8; first | with_reducible exact HK.out _ hb8 | with_reducible exact HK.out _ hb8.drew) | (have hg := hb9; first | with_reducible exact HK.out _ hb9 | with_reducible exact HK.out _ hb9.drew | with_reducible exact HK.out _ (hb9.alloc hz9 _)) | (have hg := hb10; first | with_reducible exact HK.out _ hb10 | with_reducible exact HK.out _ hb10.drew))
      (first
        | (go_at_call 176; have hg := hb8; refine (HBI.out _ _ (by assumption) hb8).mono ?_; rintro e w9 ⟨rfl, hb9⟩; have hz9 := hb9.size)
        | (go_at_call 176; have hg := hb7; refine (HBI.out _ _ (by assumption) hb7).mono ?_; rintro e w8 ⟨rfl, hb8⟩)
        | (go_at_call 176; have hg := hb6; refine (HBI.out _ _ (by assumption) hb6).mono ?_; rintro e w7 ⟨rfl, hb7⟩)
        | (go_at_call 176; refine (HBI.out _ _ (by assumption) ?_).mono ?_; (first | with_reducible exact HB5.out | with_reducible exact HB5.out.drew); rintro e w6 ⟨rfl, hb6⟩)
        | (go_at_call 175; refine (HBL.out _ hb9).mono ?_; rintro e w10 ⟨rfl, hb10⟩))
    go_wp2
    exact bodyPost_ret (v := .tuple #[.string (bs (encE ⟨k, nd, pt, cn⟩)), .int .i64 0]) (by simp [results, Tryz.results136, go_sem]) rfl ⟨by simp, H1.out.1.trans (hb10.mono (by have := H1.out.2; omega))⟩
end Go.Proofs.YtcpaaleogmiamaaGreatDoor
namespace Go.Proofs.YtcpaaleogmiamaaGreatDoor
open Go.RowKit

def syncF (f : Fl) : Fl := ⟨f.data, f.data.length⟩
def cutF (k : Nat) (f : Fl) : Fl := ⟨f.data.take k, min f.safe k⟩
def syncT (t : Tp) (n : List UInt8) : Tp × Int :=
  if t.down = true then (t, 10)
  else match fget t.files n with
    | none => (t, 12)
    | some _ => if (actT t).2 = 0 then ({ (actT t).1 with files := updF (actT t).1.files n syncF }, 0) else actT t
def cutT (t : Tp) (n : List UInt8) (k : Int) : Tp × Int :=
  if t.down = true then (t, 10)
  else match fget t.files n with
    | none => (t, 12)
    | some f => if k < 0 ∨ (f.data.length : Int) < k then (t, 1) else actT { t with files := updF t.files n (cutF k.toNat) }
def dropT (t : Tp) (n : List UInt8) : Tp × Int :=
  if t.down = true then (t, 10)
  else match fget t.files n with
    | none => (t, 12)
    | some _ => actT { t with files := t.files.eraseP (fun x => decide (x.1 = n)) }

theorem actT_files (t : Tp) : (actT t).1.files = t.files := by
  unfold actT
  split
  · rfl
  · split
    · rfl
    · rw [offT_files]
theorem actT_code (t : Tp) : (actT t).2 = 0 ∨ (actT t).2 = 10 := by
  unfold actT
  split
  · exact .inl rfl
  · split
    · exact .inl rfl
    · exact .inr rfl
theorem actT_ok {t : Tp} (h : TpOk t) : TpOk (actT t).1 := by
  unfold actT
  split
  · exact h.same rfl rfl (Nat.le_refl _)
  · split
    · exact h.same rfl rfl (Nat.sub_le _ _)
    · exact offT_ok (h.same rfl rfl (Nat.zero_le _))

theorem sum_upd_le {f : Fl → Fl} (hf : ∀ g, (f g).data.length ≤ g.data.length) (n : List UInt8) : ∀ (l : List (List UInt8 × Fl)), dataSum (updF l n f) ≤ dataSum l
  | [] => Nat.le_refl _
  | x :: l => by
    have ih := sum_upd_le hf n l
    have h1 := hf x.2
    by_cases e : x.1 = n
    · simp [dataSum, updF, e] at ih ⊢
      omega
    · simp [dataSum, updF, e] at ih ⊢
      omega
theorem TpOk.upd {t : Tp} (h : TpOk t) {n : List UInt8} {f : Fl → Fl} (h1 : ∀ g, (f g).data.length ≤ g.data.length) (h2 : ∀ g, g.safe ≤ g.data.length → (f g).safe ≤ (f g).data.length) : TpOk { t with files := updF t.files n f } :=
  ⟨h.room, by have h3 := sum_upd_le h1 n t.files; have h4 := h.sum; simp only; omega, by simp only [updF_len]; exact h.few, updF_all (P := fun f => f.safe ≤ f.data.length) h.safe h2, h.armed⟩

theorem find_down {L : TpL} {t : Tp} {n : List UInt8} (hd : t.down = true) : findV L t n = .tuple #[.pointer none, .int .i64 10] := by rw [findV, if_pos hd]
theorem find_none {L : TpL} {t : Tp} {n : List UInt8} (hd : t.down = false) (hg : flGet L n = none) : findV L t n = .tuple #[.pointer none, .int .i64 12] := by rw [findV, if_neg (by rw [hd]; simp), hg]
theorem find_some {L : TpL} {t : Tp} {n : List UInt8} {x : List UInt8 × Nat × Fl} (hd : t.down = false) (hg : flGet L n = some x) : findV L t n = .tuple #[.pointer (some ⟨x.2.1, 0, none⟩), .int .i64 0] := by rw [findV, if_neg (by rw [hd]; simp), hg]; rfl

set_option maxRecDepth 100000 in
set_option maxHeartbeats 1000000 in
theorem TSync_any {w : World} {b mb : Nat} {L : TpL} {t : Tp} (h : TpAt w b mb L t) (n : List UInt8) :
    Calls Tryz.prog 94 #[.pointer (some ⟨b, 0, none⟩), .string (bs n)] w (TpTo w b mb L (syncT t n).1 (.int .i64 (syncT t n).2)) := by
  have HF := Lib.hid (Tfind_any h n)
  have HA := Lib.hid (Tact_any h)
  have hfg : fget t.files n = (flGet L n).map (fun x => x.2.2) := by rw [h.eq]; exact fget_tp L n
  have H := Lib.hid h
  clear h
  cases hd : t.down with
  | true =>
    have hv : syncT t n = (t, 10) := by rw [syncT, if_pos hd]
    rw [find_down hd] at HF
    rw [hv]
    clear hv hfg
    go_enter Tryz.func94, Tryz.ntmps94
    go_wp2_with (first | (go_at_call 131; refine HF.out.mono ?_; rintro _ w1 ⟨rfl, rfl⟩))
    go_ret
    exact TpTo.same H.out
  | false =>
    cases hg : flGet L n with
    | none =>
      rw [hg] at hfg
      have hv : syncT t n = (t, 12) := by rw [syncT, if_neg (by rw [hd]; simp), hfg]; rfl
      rw [find_none hd hg] at HF
      rw [hv]
      clear hv hfg hg
      go_enter Tryz.func94, Tryz.ntmps94
      go_wp2_with (first | (go_at_call 131; refine HF.out.mono ?_; rintro _ w1 ⟨rfl, rfl⟩))
      go_ret
      exact TpTo.same H.out
    | some x =>
      rw [hg] at hfg
      have hv : syncT t n = if (actT t).2 = 0 then ({ (actT t).1 with files := updF (actT t).1.files n syncF }, 0) else actT t := by rw [syncT, if_neg (by rw [hd]; simp), hfg]; rfl
      rw [find_some hd hg] at HF
      have HG := Lib.hid hg
      have HOK := Lib.hid (actT_ok H.out.ok)
      rw [hv]
      clear hv hfg hg hd
      obtain ⟨a, ha⟩ : ∃ a, actT t = a := ⟨_, rfl⟩
      have hco := actT_code t
      rw [ha] at HA HOK hco ⊢
      obtain ⟨t1, c⟩ := a
      simp only at HA HOK hco ⊢
      rcases hco with rfl | rfl
      · rw [if_pos rfl]
        obtain ⟨t2, ht2⟩ : ∃ t2 : Tp, { t1 with files := updF t1.files n syncF } = t2 := ⟨_, rfl⟩
        rw [ht2]
        have HT := Lib.hid ht2
        clear ht2 ha
        go_enter Tryz.func94, Tryz.ntmps94
        go_upto_region 7 with (first | (go_at_call 131; refine HF.out.mono ?_; rintro _ w1 ⟨rfl, rfl⟩) | (go_at_call 103; refine HA.out.mono ?_; rintro _ w4 ⟨rfl, h1, h2⟩))
        have hf2 := h1.fls x (flGet_mem HG.out).1
        have d0 : w4.cell? ⟨x.2.1, 0, none⟩ = some (.string (bs x.2.2.data)) := cells_of hf2 0 _ rfl
        have d2 : w4.cell? ⟨x.2.1, 1, none⟩ = some (.int .i64 (x.2.2.safe : Int)) := cells_of hf2 1 _ rfl
        have d1 : w4.frozen? ⟨x.2.1, 1, none⟩ = false := frozen_of hf2
        have hxz := bs_size x.2.2.data
        obtain ⟨wz, hwz⟩ : ∃ wz, wz = w4.setCell ⟨x.2.1, 1, none⟩ (.int .i64 (x.2.2.data.length : Int)) := ⟨_, rfl⟩
        have hset := upd_set1 w4 x.2.1 1 (.int .i64 (x.2.2.data.length : Int))
        have hfz : wz.heap[x.2.1]? = some (.cells (flCells (syncF x.2.2)) 150 (0, 0)) := by rw [hwz]; exact setCell_same hf2
        have htp := h1.file HG.out syncF (by rw [hwz]; exact hset) hfz (HOK.out.upd (fun g => Nat.le_refl _) (fun g _ => Nat.le_refl _))
        rw [HT.out] at htp
        have huF : Upd (TpF b mb L) w1 wz := by
          rw [hwz]
          exact (h2.or (fun k e => .inl e)).trans (hset.or (fun k e => .inr (.inr (List.mem_map.2 ⟨x, (flGet_mem HG.out).1, e.symm⟩))))
        have HZ := Lib.hid (And.intro htp huF)
        have HWZ := Lib.hid hwz
        clear h1 h2 hf2 hset hfz htp huF hwz
        go_wp2
        go_ret
        rw [← HWZ.out]
        exact ⟨rfl, _, HZ.out.1, HZ.out.2, fun k hk => .inl (by rw [updL_blocks] at hk; exact hk)⟩
      · rw [if_neg (by decide)]
        clear ha
        go_enter Tryz.func94, Tryz.ntmps94
        go_wp2_with (first | (go_at_call 131; refine HF.out.mono ?_; rintro _ w1 ⟨rfl, rfl⟩) | (go_at_call 103; refine HA.out.mono ?_; rintro _ w4 ⟨rfl, h1, h2⟩))
        go_ret
        exact ⟨rfl, L, h1, h2.or (fun k e => .inl e), fun k hk => .inl hk⟩
end Go.Proofs.YtcpaaleogmiamaaGreatDoor
