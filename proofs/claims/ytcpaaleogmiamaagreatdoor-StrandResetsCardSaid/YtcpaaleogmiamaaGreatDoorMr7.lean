/- The walks of a tape's small functions. -/
import Derived.Test.YtcpaaleogmiamaaGreatDoorMr6
namespace Go.Proofs.YtcpaaleogmiamaaGreatDoor
open Go.RowKit

def offT (t : Tp) : Tp := if t.down = true then t else { t with down := true, armed := 0, life := wrap64 (t.life + 1) }
def actT (t : Tp) : Tp × Int :=
  if t.armed = 0 then ({ t with acts := wrap64 (t.acts + 1) }, 0)
  else if 1 < t.armed then ({ t with acts := wrap64 (t.acts + 1), armed := t.armed - 1 }, 0)
  else (offT { t with acts := wrap64 (t.acts + 1), armed := 0 }, 10)
def isNameB (s : List UInt8) : Bool := decide (s ≠ []) && decide (s.length ≤ 32)

theorem TpOk.same {t t' : Tp} (h : TpOk t) (h1 : t'.room = t.room) (h2 : t'.files = t.files) (h3 : t'.armed ≤ t.armed) : TpOk t' :=
  ⟨by rw [h1]; exact h.room, by rw [h2, h1]; exact h.sum, by rw [h2]; exact h.few, by rw [h2]; exact h.safe, Nat.le_trans h3 h.armed⟩
theorem offT_ok {t : Tp} (h : TpOk t) : TpOk (offT t) := by
  unfold offT
  split
  · exact h
  · exact h.same rfl rfl (Nat.zero_le _)
theorem offT_files (t : Tp) : (offT t).files = t.files := by unfold offT; split <;> rfl

theorem Tready_any {w : World} {b mb : Nat} {L : TpL} {t : Tp} (h : TpAt w b mb L t) : Calls Tryz.prog 101 #[.pointer (some ⟨b, 0, none⟩)] w fun e w' => e = .returned (.int .i64 (if t.down = true then 10 else 0)) ∧ w' = w := by
  obtain ⟨c0, c1, c2, c3, c4, c5, fz⟩ := h.cells
  clear h
  cases hd : t.down with
  | true =>
    rw [hd] at c2
    go_enter Tryz.func101, Tryz.ntmps101
    go_wp2
    go_ret
    exact ⟨rfl, rfl⟩
  | false =>
    rw [hd] at c2
    go_enter Tryz.func101, Tryz.ntmps101
    go_wp2
    go_ret
    exact ⟨rfl, rfl⟩

theorem TDown_any {w : World} {b mb : Nat} {L : TpL} {t : Tp} (h : TpAt w b mb L t) : Calls Tryz.prog 62 #[.pointer (some ⟨b, 0, none⟩)] w fun e w' => e = .returned (.bool t.down) ∧ w' = w := by
  obtain ⟨c0, c1, c2, c3, c4, c5, fz⟩ := h.cells
  clear h
  go_enter Tryz.func62, Tryz.ntmps62
  go_wp2
  go_ret
  exact ⟨rfl, rfl⟩

theorem TLife_any {w : World} {b mb : Nat} {L : TpL} {t : Tp} (h : TpAt w b mb L t) : Calls Tryz.prog 63 #[.pointer (some ⟨b, 0, none⟩)] w fun e w' => e = .returned (.int .i64 t.life) ∧ w' = w := by
  obtain ⟨c0, c1, c2, c3, c4, c5, fz⟩ := h.cells
  clear h
  go_enter Tryz.func63, Tryz.ntmps63
  go_wp2
  go_ret
  exact ⟨rfl, rfl⟩

theorem TisName_any (s : List UInt8) (w : World) : Calls Tryz.prog 102 #[.string (bs s)] w fun e w' => e = .returned (.bool (isNameB s)) ∧ w' = w := by
  have hz := bs_size s
  cases s with
  | nil =>
    have e3 : (bs ([] : List UInt8)).toList.isEmpty = true := by rw [bs_toList]; rfl
    have e1 : (bs ([] : List UInt8)).toList = [] := bs_toList _
    have hv : isNameB [] = false := rfl
    rw [hv]
    go_enter Tryz.func102, Tryz.ntmps102
    go_wp2
    go_ret
    exact ⟨ret_b (by simp []), rfl⟩
  | cons c r =>
    have e3 : (bs (c :: r)).toList.isEmpty = false := by rw [bs_toList]; rfl
    have e1 : ¬ (bs (c :: r)).toList = [] := by rw [bs_toList]; simp
    have hv : isNameB (c :: r) = decide (((c :: r).length : Int) ≤ 32) := by
      have : decide ((c :: r).length ≤ 32) = decide (((c :: r).length : Int) ≤ 32) := by
        by_cases h : (c :: r).length ≤ 32
        · rw [decide_eq_true h, decide_eq_true (by omega)]
        · rw [decide_eq_false h, decide_eq_false (by omega)]
      rw [← this]
      simp [isNameB]
    rw [hv]
    clear hv
    go_enter Tryz.func102, Tryz.ntmps102
    go_wp2
    go_ret
    exact ⟨ret_b (by first | rfl | (simp; done) | (rw [← hz]) | simp [hz]), rfl⟩

theorem TOff_any {w : World} {b mb : Nat} {L : TpL} {t : Tp} (h : TpAt w b mb L t) : Calls Tryz.prog 25 #[.pointer (some ⟨b, 0, none⟩)] w fun e w' => e = .returned (.tuple #[]) ∧ TpAt w' b mb L (offT t) ∧ Upd (fun k => k = b) w w' := by
  obtain ⟨c0, c1, c2, c3, c4, c5, fz⟩ := h.cells
  cases hd : t.down with
  | true =>
    rw [hd] at c2
    have hv : offT t = t := by rw [offT, if_pos hd]
    rw [hv]
    have H := Lib.hid h
    clear h hv
    go_enter Tryz.func25, Tryz.ntmps25
    go_wp2
    first | go_end0 | (refine bodyPost_ret (results_none rfl _ _ _) rfl ?_)
    exact ⟨rfl, H.out, Upd.refl _ _⟩
  | false =>
    rw [hd] at c2
    have hv : offT t = { t with down := true, armed := 0, life := wrap64 (t.life + 1) } := by rw [offT, if_neg (by rw [hd]; simp)]
    rw [hv]
    have f2 := fz 2
    have f4 := fz 4
    have f5 := fz 5
    have hok := h.ok
    have p1 := h.put (t' := { t with down := true }) 2 (.bool true) rfl (hok.same rfl rfl (Nat.le_refl _)) rfl
    have p2 := p1.put (t' := { t with down := true, armed := 0 }) 4 (.int .i64 0) rfl (hok.same rfl rfl (Nat.zero_le _)) rfl
    have p3 := p2.put (t' := { t with down := true, armed := 0, life := wrap64 (t.life + 1) }) 5 (.int .i64 (wrap64 (t.life + 1))) rfl (hok.same rfl rfl (Nat.zero_le _)) rfl
    have hu := ((upd_set1 w b 2 (.bool true)).trans (upd_set1 _ b 4 (.int .i64 0))).trans (upd_set1 _ b 5 (.int .i64 (wrap64 (t.life + 1))))
    have HP := Lib.hid (And.intro p3 hu)
    clear h hv p1 p2 p3 hu fz hok
    go_enter Tryz.func25, Tryz.ntmps25
    go_wp2
    first | go_end0 | (refine bodyPost_ret (results_none rfl _ _ _) rfl ?_)
    exact ⟨rfl, HP.out.1, HP.out.2⟩

set_option maxRecDepth 100000 in
theorem Tact_any {w : World} {b mb : Nat} {L : TpL} {t : Tp} (h : TpAt w b mb L t) : Calls Tryz.prog 103 #[.pointer (some ⟨b, 0, none⟩)] w fun e w' => e = .returned (.int .i64 (actT t).2) ∧ TpAt w' b mb L (actT t).1 ∧ Upd (fun k => k = b) w w' := by
  obtain ⟨c0, c1, c2, c3, c4, c5, fz⟩ := h.cells
  have f3 := fz 3
  have f4 := fz 4
  have hok := h.ok
  have p1 := h.put (t' := { t with acts := wrap64 (t.acts + 1) }) 3 (.int .i64 (wrap64 (t.acts + 1))) rfl (hok.same rfl rfl (Nat.le_refl _)) rfl
  have hu1 := upd_set1 w b 3 (.int .i64 (wrap64 (t.acts + 1)))
  by_cases h0 : t.armed = 0
  · have hv : actT t = ({ t with acts := wrap64 (t.acts + 1) }, 0) := by rw [actT, if_pos h0]
    rw [hv]
    have e0 : (t.armed : Int) = 0 := by omega
    rw [e0] at c4
    have HP := Lib.hid (And.intro p1 hu1)
    clear h hv p1 hu1 fz hok h0 e0
    go_enter Tryz.func103, Tryz.ntmps103
    go_wp2
    go_ret
    exact ⟨rfl, HP.out.1, HP.out.2⟩
  · have e0 : ¬ (t.armed : Int) = 0 := by omega
    have e0b : ((t.armed : Int) == 0) = false := beq_eq_false_iff_ne.2 e0
    obtain ⟨a', ha'⟩ : ∃ a', t.armed = a' + 1 := ⟨t.armed - 1, by omega⟩
    have ha2 : (a' : Int) + 1 ≤ 9223372036854775807 := by have := hok.armed; omega
    have ha3 : (0 : Int) ≤ (a' : Int) := by omega
    have ec : (t.armed : Int) = (a' : Int) + 1 := by omega
    rw [ec] at c4 e0 e0b
    have ew : wrap64 ((a' : Int) + 1 - 1) = (a' : Int) := by
      have : (a' : Int) + 1 - 1 = (a' : Int) := by omega
      rw [this, ← IntWalk.i64_left]; exact IntWalk.i64_in _ (by omega)
    have ew' : wrap64 (a' : Int) = (a' : Int) := by rw [← IntWalk.i64_left]; exact IntWalk.i64_in _ (by omega)
    have ew2 : (a' : Int) + 1 - 1 = (a' : Int) := by omega
    have p2 := p1.put (t' := { t with acts := wrap64 (t.acts + 1), armed := a' }) 4 (.int .i64 (a' : Int)) rfl (hok.same rfl rfl (by simp; omega)) rfl
    have hu2 := hu1.trans (upd_set1 _ b 4 (.int .i64 (a' : Int)))
    by_cases h1 : 1 < t.armed
    · have hv : actT t = ({ t with acts := wrap64 (t.acts + 1), armed := a' }, 0) := by
        rw [actT, if_neg h0, if_pos h1]
        have : t.armed - 1 = a' := by omega
        rw [this]
      rw [hv]
      have e1 : (0 : Int) < (a' : Int) := by omega
      have HP := Lib.hid (And.intro p2 hu2)
      clear h hv p1 p2 hu1 hu2 fz hok h0 ha' h1 ec ha2 ew2
      go_enter Tryz.func103, Tryz.ntmps103
      go_wp2
      go_ret
      exact ⟨rfl, HP.out.1, HP.out.2⟩
    · have a0 : a' = 0 := by omega
      subst a0
      have hv : actT t = (offT { t with acts := wrap64 (t.acts + 1), armed := 0 }, 10) := by rw [actT, if_neg h0, if_neg h1]
      rw [hv]
      have HO := Lib.hid (TOff_any p2)
      have HU := Lib.hid hu2
      clear h hv p1 p2 hu1 hu2 fz hok h0 ha' h1 ec ha2 ew2
      go_enter Tryz.func103, Tryz.ntmps103
      go_wp2_with (first | (go_at_call 25; refine HO.out.mono ?_; rintro _ w1 ⟨rfl, h1, h2⟩))
      go_ret
      exact ⟨rfl, h1, HU.out.trans h2⟩

/-- What find answers. -/
def findV (L : TpL) (t : Tp) (n : List UInt8) : Value := if t.down = true then .tuple #[.pointer none, .int .i64 10] else match flGet L n with | some x => .tuple #[flPtr x.2.1, .int .i64 0] | none => .tuple #[.pointer none, .int .i64 12]

theorem Tfind_any {w : World} {b mb : Nat} {L : TpL} {t : Tp} (h : TpAt w b mb L t) (n : List UInt8) : Calls Tryz.prog 131 #[.pointer (some ⟨b, 0, none⟩), .string (bs n)] w fun e w' => e = .returned (findV L t n) ∧ w' = w := by
  obtain ⟨c0, c1, c2, c3, c4, c5, fz⟩ := h.cells
  have hlk := h.lookup n
  have HR := Lib.hid (Tready_any h)
  clear h
  cases hd : t.down with
  | true =>
    have hv : findV L t n = .tuple #[.pointer none, .int .i64 10] := by rw [findV, if_pos hd]
    rw [hd] at HR
    rw [hv]
    clear hv
    go_enter Tryz.func131, Tryz.ntmps131
    go_wp2_with (first | (go_at_call 101; refine HR.out.mono ?_; rintro _ w1 ⟨rfl, rfl⟩))
    exact bodyPost_ret (v := .tuple #[.pointer none, .int .i64 10]) (by simp [results, Tryz.results131, go_sem]) rfl ⟨rfl, rfl⟩
  | false =>
    rw [hd] at HR
    cases hg : flGet L n with
    | none =>
      have hv : findV L t n = .tuple #[.pointer none, .int .i64 12] := by rw [findV, if_neg (by rw [hd]; simp), hg]
      rw [hv]
      rw [hg] at hlk
      have hlk' : (Instr.lookup 127 (.map (some mb)) (.string (bs n)) false).run Tryz.prog w = .ok (.pointer none) w := hlk
      clear hv hg hlk
      go_enter Tryz.func131, Tryz.ntmps131
      go_wp2_with (first | (go_at_call 101; refine HR.out.mono ?_; rintro _ w1 ⟨rfl, rfl⟩))
      exact bodyPost_ret (v := .tuple #[.pointer none, .int .i64 12]) (by simp [results, Tryz.results131, go_sem]) rfl ⟨rfl, rfl⟩
    | some x =>
      have hv : findV L t n = .tuple #[flPtr x.2.1, .int .i64 0] := by rw [findV, if_neg (by rw [hd]; simp), hg]
      rw [hv]
      rw [hg] at hlk
      have hlk' : (Instr.lookup 127 (.map (some mb)) (.string (bs n)) false).run Tryz.prog w = .ok (.pointer (some ⟨x.2.1, 0, none⟩)) w := hlk
      clear hv hg hlk
      go_enter Tryz.func131, Tryz.ntmps131
      go_wp2_with (first | (go_at_call 101; refine HR.out.mono ?_; rintro _ w1 ⟨rfl, rfl⟩))
      exact bodyPost_ret (v := .tuple #[.pointer (some ⟨x.2.1, 0, none⟩), .int .i64 0]) (by simp [results, Tryz.results131, go_sem]) rfl ⟨rfl, rfl⟩

def readV (L : TpL) (t : Tp) (n : List UInt8) : Value := if t.down = true then .tuple #[.string ⟨#[]⟩, .int .i64 10] else match flGet L n with | some x => .tuple #[.string (bs x.2.2.data), .int .i64 0] | none => .tuple #[.string ⟨#[]⟩, .int .i64 12]

theorem TRead_any {w : World} {b mb : Nat} {L : TpL} {t : Tp} (h : TpAt w b mb L t) (n : List UInt8) : Calls Tryz.prog 64 #[.pointer (some ⟨b, 0, none⟩), .string (bs n)] w fun e w' => e = .returned (readV L t n) ∧ w' = w := by
  have HF := Lib.hid (Tfind_any h n)
  have hfl := h.fls
  clear h
  cases hd : t.down with
  | true =>
    have hv : readV L t n = .tuple #[.string ⟨#[]⟩, .int .i64 10] := by rw [readV, if_pos hd]
    have hf : findV L t n = .tuple #[.pointer none, .int .i64 10] := by rw [findV, if_pos hd]
    rw [hf] at HF
    rw [hv]
    clear hv hf
    go_enter Tryz.func64, Tryz.ntmps64
    go_wp2_with (first | (go_at_call 131; refine HF.out.mono ?_; rintro _ w1 ⟨rfl, rfl⟩))
    exact bodyPost_ret (v := .tuple #[.string ⟨#[]⟩, .int .i64 10]) (by simp [results, Tryz.results64, go_sem]) rfl ⟨rfl, rfl⟩
  | false =>
    cases hg : flGet L n with
    | none =>
      have hv : readV L t n = .tuple #[.string ⟨#[]⟩, .int .i64 12] := by rw [readV, if_neg (by rw [hd]; simp), hg]
      have hf : findV L t n = .tuple #[.pointer none, .int .i64 12] := by rw [findV, if_neg (by rw [hd]; simp), hg]
      rw [hf] at HF
      rw [hv]
      clear hv hf
      go_enter Tryz.func64, Tryz.ntmps64
      go_wp2_with (first | (go_at_call 131; refine HF.out.mono ?_; rintro _ w1 ⟨rfl, rfl⟩))
      exact bodyPost_ret (v := .tuple #[.string ⟨#[]⟩, .int .i64 12]) (by simp [results, Tryz.results64, go_sem]) rfl ⟨rfl, rfl⟩
    | some x =>
      have hv : readV L t n = .tuple #[.string (bs x.2.2.data), .int .i64 0] := by rw [readV, if_neg (by rw [hd]; simp), hg]
      have hf : findV L t n = .tuple #[.pointer (some ⟨x.2.1, 0, none⟩), .int .i64 0] := by rw [findV, if_neg (by rw [hd]; simp), hg]; rfl
      have hc : w.cell? ⟨x.2.1, 0, none⟩ = some (.string (bs x.2.2.data)) := cells_of (hfl x (flGet_mem hg).1) 0 _ rfl
      rw [hf] at HF
      rw [hv]
      clear hv hf hfl hg
      go_enter Tryz.func64, Tryz.ntmps64
      go_wp2_with (first | (go_at_call 131; refine HF.out.mono ?_; rintro _ w1 ⟨rfl, rfl⟩))
      exact bodyPost_ret (v := .tuple #[.string (bs x.2.2.data), .int .i64 0]) (by simp [results, Tryz.results64, go_sem]) rfl ⟨rfl, rfl⟩

theorem TArm_any {w : World} {b mb : Nat} {L : TpL} {t : Tp} (h : TpAt w b mb L t) {n : Int} (hn : I64 n) : Calls Tryz.prog 23 #[.pointer (some ⟨b, 0, none⟩), .int .i64 n] w fun e w' => e = .returned (.tuple #[]) ∧ TpAt w' b mb L { t with armed := n.toNat } ∧ Upd (fun k => k = b) w w' := by
  obtain ⟨c0, c1, c2, c3, c4, c5, fz⟩ := h.cells
  have f4 := fz 4
  have hok := h.ok
  obtain ⟨h1, h2⟩ := hn
  obtain ⟨k, hk⟩ : ∃ k : Nat, n.toNat = k := ⟨_, rfl⟩
  rw [hk]
  have p1 := h.put (t' := { t with armed := k }) 4 (.int .i64 (k : Int)) rfl ⟨hok.room, hok.sum, hok.few, hok.safe, by simp; omega⟩ rfl
  have hu1 := upd_set1 w b 4 (.int .i64 (k : Int))
  have hm : max n 0 = (k : Int) := by omega
  have HP := Lib.hid (And.intro p1 hu1)
  by_cases hn0 : n < 0
  · have hk0 : k = 0 := by omega
    subst hk0
    clear h p1 hu1 fz hok hk
    go_enter Tryz.func23, Tryz.ntmps23
    go_wp2
    first | go_end0 | (refine bodyPost_ret (results_none rfl _ _ _) rfl ?_)
    exact ⟨rfl, HP.out.1, HP.out.2⟩
  · have hk1 : n = (k : Int) := by omega
    subst hk1
    clear h p1 hu1 fz hok hk
    go_enter Tryz.func23, Tryz.ntmps23
    go_wp2
    first | go_end0 | (refine bodyPost_ret (results_none rfl _ _ _) rfl ?_)
    exact ⟨rfl, HP.out.1, HP.out.2⟩
end Go.Proofs.YtcpaaleogmiamaaGreatDoor
