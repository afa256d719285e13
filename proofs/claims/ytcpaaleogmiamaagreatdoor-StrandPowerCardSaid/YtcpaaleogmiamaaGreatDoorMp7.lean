/- The walks of a tape's small functions. -/
/- The walk of a tape's Left. -/
/- What is done to a tape's files: plain words, and what it is in memory. -/
import Derived.Test.YtcpaaleogmiamaaGreatDoorMp6
import Derived.Laws.IdiomRangeMap
import Derived.Maps.RangeRun
namespace Go.Proofs.YtcpaaleogmiamaaGreatDoor
open Go.RowKit

def offT (t : Tp) : Tp := if t.down = true then t else { t with down := true, armed := 0, life := wrap64 (t.life + 1) }
def actT (t : Tp) : Tp × Int :=
  if t.armed = 0 then ({ t with acts := wrap64 (t.acts + 1) }, 0)
  else if 1 < t.armed then ({ t with acts := wrap64 (t.acts + 1), armed := t.armed - 1 }, 0)
  else (offT { t with acts := wrap64 (t.acts + 1), armed := 0 }, 10)
def isNameB (s : List UInt8) : Bool := decide (s ≠ []) && decide (s.length ≤ 32)

theorem TpOk.same {t t' : Tp} (h : TpOk t) (h1 : t'.room = t.room) (h2 : t'.files = t.files) (h3 : t'.armed ≤ t.armed) : TpOk t' :=
  ⟨by rw [h1]; exact h.room, by rw [h2, h1]; exact h.sum, by rw [h2]; exact h.few, by rw [h2]; exact h.safe, Nat.le_trans h3 h.armed⟩
theorem offT_ok {t : Tp} (h : TpOk t) : TpOk (offT t) := by
  unfold offT
  split
  · exact h
  · exact h.same rfl rfl (Nat.zero_le _)
theorem offT_files (t : Tp) : (offT t).files = t.files := by unfold offT; split <;> rfl

theorem Tready_any {w : World} {b mb : Nat} {L : TpL} {t : Tp} (h : TpAt w b mb L t) : Calls Tryz.prog 101 #[.pointer (some ⟨b, 0, none⟩)] w fun e w' => e = .returned (.int .i64 (if t.down = true then 10 else 0)) ∧ w' = w := by
  obtain ⟨c0, c1, c2, c3, c4, c5, fz⟩ := h.cells
  clear h
  cases hd : t.down with
  | true =>
    rw [hd] at c2
    go_enter Tryz.func101, Tryz.ntmps101
    go_wp2
    go_ret
    exact ⟨rfl, rfl⟩
  | false =>
    rw [hd] at c2
    go_enter Tryz.func101, Tryz.ntmps101
    go_wp2
    go_ret
    exact ⟨rfl, rfl⟩

theorem TDown_any {w : World} {b mb : Nat} {L : TpL} {t : Tp} (h : TpAt w b mb L t) : Calls Tryz.prog 62 #[.pointer (some ⟨b, 0, none⟩)] w fun e w' => e = .returned (.bool t.down) ∧ w' = w := by
  obtain ⟨c0, c1, c2, c3, c4, c5, fz⟩ := h.cells
  clear h
  go_enter Tryz.func62, Tryz.ntmps62
  go_wp2
  go_ret
  exact ⟨rfl, rfl⟩

theorem TLife_any {w : World} {b mb : Nat} {L : TpL} {t : Tp} (h : TpAt w b mb L t) : Calls Tryz.prog 63 #[.pointer (some ⟨b, 0, none⟩)] w fun e w' => e = .returned (.int .i64 t.life) ∧ w' = w := by
  obtain ⟨c0, c1, c2, c3, c4, c5, fz⟩ := h.cells
  clear h
  go_enter Tryz.func63, Tryz.ntmps63
  go_wp2
  go_ret
  exact ⟨rfl, rfl⟩

theorem TisName_any (s : List UInt8) (w : World) : Calls Tryz.prog 102 #[.string (bs s)] w fun e w' => e = .returned (.bool (isNameB s)) ∧ w' = w := by
  have hz := bs_size s
  cases s with
  | nil =>
    have e3 : (bs ([] : List UInt8)).toList.isEmpty = true := by rw [bs_toList]; rfl
    have e1 : (bs ([] : List UInt8)).toList = [] := bs_toList _
    have hv : isNameB [] = false := rfl
    rw [hv]
    go_enter Tryz.func102, Tryz.ntmps102
    go_wp2
    go_ret
    exact ⟨ret_b (by simp []), rfl⟩
  | cons c r =>
    have e3 : (bs (c :: r)).toList.isEmpty = false := by rw [bs_toList]; rfl
    have e1 : ¬ (bs (c :: r)).toList = [] := by rw [bs_toList]; simp
    have hv : isNameB (c :: r) = decide (((c :: r).length : Int) ≤ 32) := by
      have : decide ((c :: r).length ≤ 32) = decide (((c :: r).length : Int) ≤ 32) := by
        by_cases h : (c :: r).length ≤ 32
        · rw [decide_eq_true h, decide_eq_true (by omega)]
        · rw [decide_eq_false h, decide_eq_false (by omega)]
      rw [← this]
      simp [isNameB]
    rw [hv]
    clear hv
    go_enter Tryz.func102, Tryz.ntmps102
    go_wp2
    go_ret
    exact ⟨ret_b (by first | rfl | (simp; done) | (rw [← hz]) | simp [hz]), rfl⟩

theorem TOff_any {w : World} {b mb : Nat} {L : TpL} {t : Tp} (h : TpAt w b mb L t) : Calls Tryz.prog 25 #[.pointer (some ⟨b, 0, none⟩)] w fun e w' => e = .returned (.tuple #[]) ∧ TpAt w' b mb L (offT t) ∧ Upd (fun k => k = b) w w' := by
  obtain ⟨c0, c1, c2, c3, c4, c5, fz⟩ := h.cells
  cases hd : t.down with
  | true =>
    rw [hd] at c2
    have hv : offT t = t := by rw [offT, if_pos hd]
    rw [hv]
    have H := Lib.hid h
    clear h hv
    go_enter Tryz.func25, Tryz.ntmps25
    go_wp2
    first | go_end0 | (refine bodyPost_ret (results_none rfl _ _ _) rfl ?_)
    exact ⟨rfl, H.out, Upd.refl _ _⟩
  | false =>
    rw [hd] at c2
    have hv : offT t = { t with down := true, armed := 0, life := wrap64 (t.life + 1) } := by rw [offT, if_neg (by rw [hd]; simp)]
    rw [hv]
    have f2 := fz 2
    have f4 := fz 4
    have f5 := fz 5
    have hok := h.ok
    have p1 := h.put (t' := { t with down := true }) 2 (.bool true) rfl (hok.same rfl rfl (Nat.le_refl _)) rfl
    have p2 := p1.put (t' := { t with down := true, armed := 0 }) 4 (.int .i64 0) rfl (hok.same rfl rfl (Nat.zero_le _)) rfl
    have p3 := p2.put (t' := { t with down := true, armed := 0, life := wrap64 (t.life + 1) }) 5 (.int .i64 (wrap64 (t.life + 1))) rfl (hok.same rfl rfl (Nat.zero_le _)) rfl
    have hu := ((upd_set1 w b 2 (.bool true)).trans (upd_set1 _ b 4 (.int .i64 0))).trans (upd_set1 _ b 5 (.int .i64 (wrap64 (t.life + 1))))
    have HP := Lib.hid (And.intro p3 hu)
    clear h hv p1 p2 p3 hu fz hok
    go_enter Tryz.func25, Tryz.ntmps25
    go_wp2
    first | go_end0 | (refine bodyPost_ret (results_none rfl _ _ _) rfl ?_)
    exact ⟨rfl, HP.out.1, HP.out.2⟩

set_option maxRecDepth 100000 in
theorem Tact_any {w : World} {b mb : Nat} {L : TpL} {t : Tp} (h : TpAt w b mb L t) : Calls Tryz.prog 103 #[.pointer (some ⟨b, 0, none⟩)] w fun e w' => e = .returned (.int .i64 (actT t).2) ∧ TpAt w' b mb L (actT t).1 ∧ Upd (fun k => k = b) w w' := by
  obtain ⟨c0, c1, c2, c3, c4, c5, fz⟩ := h.cells
  have f3 := fz 3
  have f4 := fz 4
  have hok := h.ok
  have p1 := h.put (t' := { t with acts := wrap64 (t.acts + 1) }) 3 (.int .i64 (wrap64 (t.acts + 1))) rfl (hok.same rfl rfl (Nat.le_refl _)) rfl
  have hu1 := upd_set1 w b 3 (.int .i64 (wrap64 (t.acts + 1)))
  by_cases h0 : t.armed = 0
  · have hv : actT t = ({ t with acts := wrap64 (t.acts + 1) }, 0) := by rw [actT, if_pos h0]
    rw [hv]
    have e0 : (t.armed : Int) = 0 := by omega
    rw [e0] at c4
    have HP := Lib.hid (And.intro p1 hu1)
    clear h hv p1 hu1 fz hok h0 e0
    go_enter Tryz.func103, Tryz.ntmps103
    go_wp2
    go_ret
    exact ⟨rfl, HP.out.1, HP.out.2⟩
  · have e0 : ¬ (t.armed : Int) = 0 := by omega
    have e0b : ((t.armed : Int) == 0) = false := beq_eq_false_iff_ne.2 e0
    obtain ⟨a', ha'⟩ : ∃ a', t.armed = a' + 1 := ⟨t.armed - 1, by omega⟩
    have ha2 : (a' : Int) + 1 ≤ 9223372036854775807 := by have := hok.armed; omega
    have ha3 : (0 : Int) ≤ (a' : Int) := by omega
    have ec : (t.armed : Int) = (a' : Int) + 1 := by omega
    rw [ec] at c4 e0 e0b
    have ew : wrap64 ((a' : Int) + 1 - 1) = (a' : Int) := by
      have : (a' : Int) + 1 - 1 = (a' : Int) := by omega
      rw [this, ← IntWalk.i64_left]; exact IntWalk.i64_in _ (by omega)
    have ew' : wrap64 (a' : Int) = (a' : Int) := by rw [← IntWalk.i64_left]; exact IntWalk.i64_in _ (by omega)
    have ew2 : (a' : Int) + 1 - 1 = (a' : Int) := by omega
    have p2 := p1.put (t' := { t with acts := wrap64 (t.acts + 1), armed := a' }) 4 (.int .i64 (a' : Int)) rfl (hok.same rfl rfl (by simp; omega)) rfl
    have hu2 := hu1.trans (upd_set1 _ b 4 (.int .i64 (a' : Int)))
    by_cases h1 : 1 < t.armed
    · have hv : actT t = ({ t with acts := wrap64 (t.acts + 1), armed := a' }, 0) := by
        rw [actT, if_neg h0, if_pos h1]
        have : t.armed - 1 = a' := by omega
        rw [this]
      rw [hv]
      have e1 : (0 : Int) < (a' : Int) := by omega
      have HP := Lib.hid (And.intro p2 hu2)
      clear h hv p1 p2 hu1 hu2 fz hok h0 ha' h1 ec ha2 ew2
      go_enter Tryz.func103, Tryz.ntmps103
      go_wp2
      go_ret
      exact ⟨rfl, HP.out.1, HP.out.2⟩
    · have a0 : a' = 0 := by omega
      subst a0
      have hv : actT t = (offT { t with acts := wrap64 (t.acts + 1), armed := 0 }, 10) := by rw [actT, if_neg h0, if_neg h1]
      rw [hv]
      have HO := Lib.hid (TOff_any p2)
      have HU := Lib.hid hu2
      clear h hv p1 p2 hu1 hu2 fz hok h0 ha' h1 ec ha2 ew2
      go_enter Tryz.func103, Tryz.ntmps103
      go_wp2_with (first | (go_at_call 25; refine HO.out.mono ?_; rintro _ w1 ⟨rfl, h1, h2⟩))
      go_ret
      exact ⟨rfl, h1, HU.out.trans h2⟩

/-- What find answers. -/
def findV (L : TpL) (t : Tp) (n : List UInt8) : Value := if t.down = true then .tuple #[.pointer none, .int .i64 10] else match flGet L n with | some x => .tuple #[flPtr x.2.1, .int .i64 0] | none => .tuple #[.pointer none, .int .i64 12]

theorem Tfind_any {w : World} {b mb : Nat} {L : TpL} {t : Tp} (h : TpAt w b mb L t) (n : List UInt8) : Calls Tryz.prog 131 #[.pointer (some ⟨b, 0, none⟩), .string (bs n)] w fun e w' => e = .returned (findV L t n) ∧ w' = w := by
  obtain ⟨c0, c1, c2, c3, c4, c5, fz⟩ := h.cells
  have hlk := h.lookup n
  have HR := Lib.hid (Tready_any h)
  clear h
  cases hd : t.down with
  | true =>
    have hv : findV L t n = .tuple #[.pointer none, .int .i64 10] := by rw [findV, if_pos hd]
    rw [hd] at HR
    rw [hv]
    clear hv
    go_enter Tryz.func131, Tryz.ntmps131
    go_wp2_with (first | (go_at_call 101; refine HR.out.mono ?_; rintro _ w1 ⟨rfl, rfl⟩))
    exact bodyPost_ret (v := .tuple #[.pointer none, .int .i64 10]) (by simp [results, Tryz.results131, go_sem]) rfl ⟨rfl, rfl⟩
  | false =>
    rw [hd] at HR
    cases hg : flGet L n with
    | none =>
      have hv : findV L t n = .tuple #[.pointer none, .int .i64 12] := by rw [findV, if_neg (by rw [hd]; simp), hg]
      rw [hv]
      rw [hg] at hlk
      have hlk' : (Instr.lookup 127 (.map (some mb)) (.string (bs n)) false).run Tryz.prog w = .ok (.pointer none) w := hlk
      clear hv hg hlk
      go_enter Tryz.func131, Tryz.ntmps131
      go_wp2_with (first | (go_at_call 101; refine HR.out.mono ?_; rintro _ w1 ⟨rfl, rfl⟩))
      exact bodyPost_ret (v := .tuple #[.pointer none, .int .i64 12]) (by simp [results, Tryz.results131, go_sem]) rfl ⟨rfl, rfl⟩
    | some x =>
      have hv : findV L t n = .tuple #[flPtr x.2.1, .int .i64 0] := by rw [findV, if_neg (by rw [hd]; simp), hg]
      rw [hv]
      rw [hg] at hlk
      have hlk' : (Instr.lookup 127 (.map (some mb)) (.string (bs n)) false).run Tryz.prog w = .ok (.pointer (some ⟨x.2.1, 0, none⟩)) w := hlk
      clear hv hg hlk
      go_enter Tryz.func131, Tryz.ntmps131
      go_wp2_with (first | (go_at_call 101; refine HR.out.mono ?_; rintro _ w1 ⟨rfl, rfl⟩))
      exact bodyPost_ret (v := .tuple #[.pointer (some ⟨x.2.1, 0, none⟩), .int .i64 0]) (by simp [results, Tryz.results131, go_sem]) rfl ⟨rfl, rfl⟩

def readV (L : TpL) (t : Tp) (n : List UInt8) : Value := if t.down = true then .tuple #[.string ⟨#[]⟩, .int .i64 10] else match flGet L n with | some x => .tuple #[.string (bs x.2.2.data), .int .i64 0] | none => .tuple #[.string ⟨#[]⟩, .int .i64 12]

theorem TRead_any {w : World} {b mb : Nat} {L : TpL} {t : Tp} (h : TpAt w b mb L t) (n : List UInt8) : Calls Tryz.prog 64 #[.pointer (some ⟨b, 0, none⟩), .string (bs n)] w fun e w' => e = .returned (readV L t n) ∧ w' = w := by
  have HF := Lib.hid (Tfind_any h n)
  have hfl := h.fls
  clear h
  cases hd : t.down with
  | true =>
    have hv : readV L t n = .tuple #[.string ⟨#[]⟩, .int .i64 10] := by rw [readV, if_pos hd]
    have hf : findV L t n = .tuple #[.pointer none, .int .i64 10] := by rw [findV, if_pos hd]
    rw [hf] at HF
    rw [hv]
    clear hv hf
    go_enter Tryz.func64, Tryz.ntmps64
    go_wp2_with (first | (go_at_call 131; refine HF.out.mono ?_; rintro _ w1 ⟨rfl, rfl⟩))
    exact bodyPost_ret (v := .tuple #[.string ⟨#[]⟩, .int .i64 10]) (by simp [results, Tryz.results64, go_sem]) rfl ⟨rfl, rfl⟩
  | false =>
    cases hg : flGet L n with
    | none =>
      have hv : readV L t n = .tuple #[.string ⟨#[]⟩, .int .i64 12] := by rw [readV, if_neg (by rw [hd]; simp), hg]
      have hf : findV L t n = .tuple #[.pointer none, .int .i64 12] := by rw [findV, if_neg (by rw [hd]; simp), hg]
      rw [hf] at HF
      rw [hv]
      clear hv hf
      go_enter Tryz.func64, Tryz.ntmps64
      go_wp2_with (first | (go_at_call 131; refine HF.out.mono ?_; rintro _ w1 ⟨rfl, rfl⟩))
      exact bodyPost_ret (v := .tuple #[.string ⟨#[]⟩, .int .i64 12]) (by simp [results, Tryz.results64, go_sem]) rfl ⟨rfl, rfl⟩
    | some x =>
      have hv : readV L t n = .tuple #[.string (bs x.2.2.data), .int .i64 0] := by rw [readV, if_neg (by rw [hd]; simp), hg]
      have hf : findV L t n = .tuple #[.pointer (some ⟨x.2.1, 0, none⟩), .int .i64 0] := by rw [findV, if_neg (by rw [hd]; simp), hg]; rfl
      have hc : w.cell? ⟨x.2.1, 0, none⟩ = some (.string (bs x.2.2.data)) := cells_of (hfl x (flGet_mem hg).1) 0 _ rfl
      rw [hf] at HF
      rw [hv]
      clear hv hf hfl hg
      go_enter Tryz.func64, Tryz.ntmps64
      go_wp2_with (first | (go_at_call 131; refine HF.out.mono ?_; rintro _ w1 ⟨rfl, rfl⟩))
      exact bodyPost_ret (v := .tuple #[.string (bs x.2.2.data), .int .i64 0]) (by simp [results, Tryz.results64, go_sem]) rfl ⟨rfl, rfl⟩

theorem TArm_any {w : World} {b mb : Nat} {L : TpL} {t : Tp} (h : TpAt w b mb L t) {n : Int} (hn : I64 n) : Calls Tryz.prog 23 #[.pointer (some ⟨b, 0, none⟩), .int .i64 n] w fun e w' => e = .returned (.tuple #[]) ∧ TpAt w' b mb L { t with armed := n.toNat } ∧ Upd (fun k => k = b) w w' := by
  obtain ⟨c0, c1, c2, c3, c4, c5, fz⟩ := h.cells
  have f4 := fz 4
  have hok := h.ok
  obtain ⟨h1, h2⟩ := hn
  obtain ⟨k, hk⟩ : ∃ k : Nat, n.toNat = k := ⟨_, rfl⟩
  rw [hk]
  have p1 := h.put (t' := { t with armed := k }) 4 (.int .i64 (k : Int)) rfl ⟨hok.room, hok.sum, hok.few, hok.safe, by simp; omega⟩ rfl
  have hu1 := upd_set1 w b 4 (.int .i64 (k : Int))
  have hm : max n 0 = (k : Int) := by omega
  have HP := Lib.hid (And.intro p1 hu1)
  by_cases hn0 : n < 0
  · have hk0 : k = 0 := by omega
    subst hk0
    clear h p1 hu1 fz hok hk
    go_enter Tryz.func23, Tryz.ntmps23
    go_wp2
    first | go_end0 | (refine bodyPost_ret (results_none rfl _ _ _) rfl ?_)
    exact ⟨rfl, HP.out.1, HP.out.2⟩
  · have hk1 : n = (k : Int) := by omega
    subst hk1
    clear h p1 hu1 fz hok hk
    go_enter Tryz.func23, Tryz.ntmps23
    go_wp2
    first | go_end0 | (refine bodyPost_ret (results_none rfl _ _ _) rfl ?_)
    exact ⟨rfl, HP.out.1, HP.out.2⟩
end Go.Proofs.YtcpaaleogmiamaaGreatDoor
namespace Go.Proofs.YtcpaaleogmiamaaGreatDoor
open Go.RowKit
open Go.ChangeMaps (setBlock)

/-- How long the file behind a pointer is. -/
def lenV (L : TpL) (v : Value) : Nat := match v with | .pointer (some a) => ((L.find? (fun x => decide (x.2.1 = a.block))).map (fun x => x.2.2.data.length)).getD 0 | _ => 0
theorem lenV_at : ∀ {L : TpL}, (tpBlocks L).Nodup → ∀ x ∈ L, lenV L (flPtr x.2.1) = x.2.2.data.length
  | [], _, x, hx => by cases hx
  | y :: L, hn, x, hx => by
    have hn' := List.pairwise_cons.1 hn
    by_cases e : y.2.1 = x.2.1
    · rcases List.mem_cons.1 hx with rfl | h
      · simp [lenV, flPtr]
      · exact absurd e (hn'.1 _ (List.mem_map.2 ⟨x, h, rfl⟩))
    · rcases List.mem_cons.1 hx with rfl | h
      · exact absurd rfl e
      · have ih := lenV_at hn'.2 x h
        simp only [lenV, flPtr] at ih ⊢
        rw [List.find?_cons_of_neg (by simpa using e)]
        exact ih

/-- The sum over the entries that were met. -/
def seenS (f : MapEntry → Nat) (seen : Array Nat) (l : List MapEntry) : Nat := ((l.filter (fun e => seen.contains e.born)).map f).sum
theorem seenS_none (f : MapEntry → Nat) (l : List MapEntry) : seenS f #[] l = 0 := by
  have : l.filter (fun e => (#[] : Array Nat).contains e.born) = [] := by simp
  unfold seenS
  rw [this]
  rfl
theorem seenS_cons (f : MapEntry → Nat) (seen : Array Nat) (x : MapEntry) (l : List MapEntry) : seenS f seen (x :: l) = (if seen.contains x.born = true then f x else 0) + seenS f seen l := by
  unfold seenS
  by_cases h : seen.contains x.born = true
  · rw [if_pos h, List.filter_cons_of_pos (p := fun e : MapEntry => seen.contains e.born) h]; rfl
  · rw [if_neg h, List.filter_cons_of_neg (p := fun e : MapEntry => seen.contains e.born) h, Nat.zero_add]
theorem seenS_same (f : MapEntry → Nat) (seen : Array Nat) (n : Nat) : ∀ (l : List MapEntry), (∀ x ∈ l, x.born ≠ n) → seenS f (seen.push n) l = seenS f seen l
  | [], _ => rfl
  | x :: l, h => by
    have h1 := h x (by simp)
    rw [seenS_cons, seenS_cons, seenS_same f seen n l (fun y hy => h y (by simp [hy]))]
    have : (seen.push n).contains x.born = seen.contains x.born := by
      rw [Bool.eq_iff_iff, Array.contains_iff_mem, Array.contains_iff_mem, Array.mem_push]
      constructor
      · rintro (h2 | h2)
        · exact h2
        · exact absurd h2 h1
      · exact .inl
    rw [this]
theorem seenS_push (f : MapEntry → Nat) (seen : Array Nat) (e : MapEntry) (he : seen.contains e.born = false) : ∀ (l : List MapEntry), (l.map (·.born)).Nodup → e ∈ l → seenS f (seen.push e.born) l = seenS f seen l + f e
  | [], _, h => by cases h
  | x :: l, hn, h => by
    have hn' := List.pairwise_cons.1 hn
    rw [seenS_cons, seenS_cons]
    rcases List.mem_cons.1 h with rfl | h1
    · rw [seenS_same f seen e.born l (fun y hy hb => hn'.1 _ (List.mem_map.2 ⟨y, hy, rfl⟩) hb.symm)]
      have : (seen.push e.born).contains e.born = true := by rw [Array.contains_iff_mem, Array.mem_push]; exact .inr rfl
      rw [if_pos this, if_neg (by rw [he]; simp)]
      omega
    · rw [seenS_push f seen e he l hn'.2 h1]
      have hne : x.born ≠ e.born := hn'.1 _ (List.mem_map.2 ⟨e, h1, rfl⟩)
      have : (seen.push e.born).contains x.born = seen.contains x.born := by
        rw [Bool.eq_iff_iff, Array.contains_iff_mem, Array.contains_iff_mem, Array.mem_push]
        constructor
        · rintro (h2 | h2)
          · exact h2
          · exact absurd h2 hne
        · exact .inl
      rw [this]
      omega
theorem seenS_all (f : MapEntry → Nat) (es : Array MapEntry) (seen : Array Nat) (h : (leftOf es seen).size = 0) : seenS f seen es.toList = (es.toList.map f).sum := by
  have h1 : ∀ x ∈ es.toList, seen.contains x.born = true := by
    intro x hx
    have h2 : leftOf es seen = #[] := Array.eq_empty_of_size_eq_zero h
    unfold leftOf at h2
    rw [Array.filter_eq_empty_iff] at h2
    have := h2 x (by simpa using hx)
    simpa using this
  unfold seenS
  rw [List.filter_eq_self.2 h1]

theorem seenS_le (f : MapEntry → Nat) (seen : Array Nat) : ∀ (l : List MapEntry), seenS f seen l ≤ (l.map f).sum
  | [] => Nat.le_refl _
  | x :: l => by
    have ih := seenS_le f seen l
    rw [seenS_cons]
    simp only [List.map_cons, List.sum_cons]
    split <;> omega

set_option maxRecDepth 100000 in
set_option maxHeartbeats 1000000 in
theorem TLeft_any {w : World} {b mb : Nat} {L : TpL} {t : Tp} (h : TpAt w b mb L t) : Calls Tryz.prog 50 #[.pointer (some ⟨b, 0, none⟩)] w fun e w' => e = .returned (.int .i64 (t.room - dataSum t.files)) ∧ Below w.heap.size w w' := by
  obtain ⟨c0, c1, c2, c3, c4, c5, fz⟩ := h.cells
  obtain ⟨es, clock, hb, he, hst⟩ := h.map
  have hst2 := (MapKept.stamped_iff es clock).1 hst
  have hvals : es.toList.map (fun e => e.val) = L.map (fun x => flPtr x.2.1) := by
    have := congrArg (fun l => l.map (·.2)) he
    simpa [List.map_map, Function.comp_def] using this
  have hsum : (es.toList.map (fun e => lenV L e.val)).sum = dataSum t.files := by
    have h1 : es.toList.map (fun e => lenV L e.val) = L.map (fun x => x.2.2.data.length) := by
      have h2 : es.toList.map (fun e => lenV L e.val) = (es.toList.map (fun e => e.val)).map (lenV L) := by rw [List.map_map]; rfl
      rw [h2, hvals, List.map_map]
      exact List.map_congr_left (fun x hx => lenV_at h.apart x hx)
    rw [h1, h.eq, dataSum, List.map_map]
    rfl
  have hent : ∀ e ∈ es.toList, ∃ x ∈ L, e.val = flPtr x.2.1 := by
    intro e hm
    have h1 : e.val ∈ es.toList.map (fun e => e.val) := List.mem_map.2 ⟨e, hm, rfl⟩
    rw [hvals] at h1
    obtain ⟨x, hx, h2⟩ := List.mem_map.1 h1
    exact ⟨x, hx, h2.symm⟩
  have hrg := run_range_map (P := Tryz.prog) w 127 9 148 mb es clock und_mapFile hb
  have hroom := h.ok.room
  have hsm := h.ok.sum
  have HT := Lib.hid (And.intro h (And.intro hsum (And.intro hent (And.intro hst2 hsm))))
  clear h hst hvals he hsum hent fz
  go_enter Tryz.func50, Tryz.ntmps50
  go_wp2
  go_loopg [3] (leftOf es #[]).size (fun gk s wr => ∃ (seen : Array Nat) (c0 : Nat) (k : Int), gk = (leftOf es seen).size ∧ s = .int .i64 k ∧ clock ≤ c0 ∧ k + (seenS (fun e => lenV L e.val) seen es.toList : Int) = t.room ∧ Below w.heap.size w wr ∧ wr.heap[w.heap.size]? = some (.mapIter (some mb) clock seen c0))
  case atStart => exact ⟨#[], clock, t.room, rfl, rfl, Nat.le_refl _, by rw [seenS_none]; simp, below_alloc _ _, heap_alloc_new _ _⟩
  case round =>
    obtain ⟨seen, c0', k, rfl, rfl, hcl, hk, hbel, hit⟩ := hrel
    have hmb : mb < w.heap.size := (Array.getElem?_eq_some_iff.1 hb).1
    have hb1 : wr.heap[mb]? = some (.map es clock) := (hbel.block mb hmb).trans hb
    have law := run_next_at (P := Tryz.prog) wr 0 w.heap.size mb clock c0' seen es clock hit hb1 HT.out.2.2.2.1.1 hcl
    rcases law with ⟨h0, hrun⟩ | ⟨e, he, w2, hal2, hrun⟩
    · have hnx : ∀ ty, (Instr.next (.pointer (some ⟨w.heap.size, 0, none⟩)) false ty).run Tryz.prog wr = _ := fun _ => hrun
      have hkf : k = t.room - (dataSum t.files : Int) := by
        have h1 := seenS_all (fun e => lenV L e.val) es seen h0
        rw [HT.out.2.1] at h1
        omega
      have HK := Lib.hid (And.intro hkf hbel)
      clear hkf hbel hk h0 hcl
      go_wp2
      go_ret
      exact ⟨ret_i HK.out.1, HK.out.2⟩
    · obtain ⟨hem, hes⟩ := mem_left he
      obtain ⟨x, hx, hval0⟩ := HT.out.2.2.1 e hem
      have hval : e.val = .pointer (some ⟨x.2.1, 0, none⟩) := hval0
      rw [hval] at hrun
      have hnx : ∀ ty, (Instr.next (.pointer (some ⟨w.heap.size, 0, none⟩)) false ty).run Tryz.prog wr = _ := fun _ => hrun
      have hw2 : Below w.heap.size w w2 ∧ w2.heap = wr.heap := by
        rcases hal2 with rfl | rfl
        · exact ⟨hbel, rfl⟩
        · exact ⟨hbel.drew, rfl⟩
      obtain ⟨w3, hw3⟩ : ∃ w3, w3 = setBlock w2 w.heap.size (.mapIter (some mb) clock (seen.push e.born) clock) := ⟨_, rfl⟩
      have hit2 : w2.heap[w.heap.size]? = some (.mapIter (some mb) clock seen c0') := by rw [hw2.2]; exact hit
      have hlt2 : w.heap.size < w2.heap.size := (Array.getElem?_eq_some_iff.1 hit2).1
      have hit3 : w3.heap[w.heap.size]? = some (.mapIter (some mb) clock (seen.push e.born) clock) := by rw [hw3]; simp [setBlock, hlt2]
      have hb3 : Below w.heap.size w w3 := by
        rw [hw3]
        exact hw2.1.trans ⟨rfl, rfl, rfl, by simp [setBlock], fun j hj => by simp [setBlock]; rw [Array.getElem?_setIfInBounds_ne (by omega)]⟩
      have hen := run_entry_at (P := Tryz.prog) w3 w.heap.size mb clock seen es clock e hit3 ((hb3.block mb hmb).trans hb) hem HT.out.2.2.2.1.2.1
      rw [hval] at hen
      rw [← hw3] at hnx
      have hpush := seenS_push (fun e => lenV L e.val) seen e hes es.toList HT.out.2.2.2.1.2.1 hem
      have hlen : lenV L e.val = x.2.2.data.length := by rw [hval]; exact lenV_at HT.out.1.apart x hx
      have hle := seenS_le (fun e => lenV L e.val) (seen.push e.born) es.toList
      have hfx := HT.out.1.fls x hx
      have hxl : x.2.1 < w.heap.size := (Array.getElem?_eq_some_iff.1 hfx).1
      have hfc : w3.cell? ⟨x.2.1, 0, none⟩ = some (.string (bs x.2.2.data)) := cells_of ((hb3.block _ hxl).trans hfx) 0 _ rfl
      have hs0 := HT.out.2.1
      have hsm := HT.out.2.2.2.2
      rw [hs0] at hle
      simp only [hlen] at hpush
      have hbz := bs_size x.2.2.data
      obtain ⟨n, hn⟩ : ∃ n, x.2.2.data.length = n := ⟨_, rfl⟩
      rw [hn] at hpush hbz
      have hk' : k - (n : Int) + (seenS (fun e => lenV L e.val) (seen.push e.born) es.toList : Int) = t.room := by omega
      have hkb : 0 ≤ k - (n : Int) ∧ k - (n : Int) ≤ 4194304 := by omega
      have hwr : wrap64 (k - (n : Int)) = k - (n : Int) := by rw [← IntWalk.i64_left]; exact IntWalk.i64_in _ (by omega)
      have hsh := left_shrinks es seen e he
      have HR := Lib.hid (And.intro hk' (And.intro hb3 (And.intro hit3 hsh)))
      clear hk hpush hle hfx hs0 hsm hk' hlen hbel hrun hn hem hes hw2 hw3 hit2 hit3 hb3 hsh hkb hit hb1 hal2 hcl hval hval0 hlt2 hxl
      go_wp2
      go_roundg (leftOf es (seen.push e.born)).size
      case measure => exact HR.out.2.2.2
      case rel => exact ⟨seen.push e.born, clock, _, rfl, rfl, Nat.le_refl _, by rw [hwr]; exact HR.out.1, HR.out.2.1, HR.out.2.2.1⟩
end Go.Proofs.YtcpaaleogmiamaaGreatDoor
namespace Go.Proofs.YtcpaaleogmiamaaGreatDoor
open Go.RowKit

def updL (L : TpL) (n : List UInt8) (f : Fl → Fl) : TpL := L.map (fun x => if x.1 = n then (x.1, x.2.1, f x.2.2) else x)
def updF (l : List (List UInt8 × Fl)) (n : List UInt8) (f : Fl → Fl) : List (List UInt8 × Fl) := l.map (fun x => if x.1 = n then (x.1, f x.2) else x)
def fget (l : List (List UInt8 × Fl)) (n : List UInt8) : Option Fl := (l.find? (fun x => decide (x.1 = n))).map (·.2)

theorem fget_tp (L : TpL) (n : List UInt8) : fget (tpFiles L) n = (flGet L n).map (fun x => x.2.2) := by
  unfold fget flGet tpFiles
  rw [List.find?_map, Option.map_map]
  rfl
theorem updL_blocks (L : TpL) (n : List UInt8) (f : Fl → Fl) : tpBlocks (updL L n f) = tpBlocks L := by
  simp only [tpBlocks, updL, List.map_map]
  exact List.map_congr_left (fun x _ => by simp only [Function.comp]; split <;> rfl)
theorem updL_map (L : TpL) (n : List UInt8) (f : Fl → Fl) : tpMap (updL L n f) = tpMap L := by
  simp only [tpMap, updL, List.map_map]
  exact List.map_congr_left (fun x _ => by simp only [Function.comp]; split <;> rfl)
theorem updL_files (L : TpL) (n : List UInt8) (f : Fl → Fl) : tpFiles (updL L n f) = updF (tpFiles L) n f := by
  simp only [tpFiles, updL, updF, List.map_map]
  exact List.map_congr_left (fun x _ => by simp only [Function.comp]; split <;> rfl)

theorem updF_none {l : List (List UInt8 × Fl)} {n : List UInt8} {f : Fl → Fl} (h : ∀ x ∈ l, x.1 ≠ n) : updF l n f = l := by
  unfold updF
  conv => rhs; rw [← List.map_id l]
  exact List.map_congr_left (fun x hx => by rw [if_neg (h x hx)]; rfl)

theorem sum_updF {n : List UInt8} {f : Fl → Fl} : ∀ {l : List (List UInt8 × Fl)} {g : Fl}, (l.map (·.1)).Nodup → fget l n = some g → dataSum (updF l n f) + g.data.length = dataSum l + (f g).data.length
  | [], g, _, h => by simp [fget] at h
  | x :: l, g, hn, h => by
    have hn' := List.pairwise_cons.1 hn
    by_cases e : x.1 = n
    · have hg : g = x.2 := by simpa [fget, e] using h.symm
      have hr : updF l n f = l := updF_none (fun y hy ey => hn'.1 _ (List.mem_map.2 ⟨y, hy, rfl⟩) (show x.1 = y.1 by rw [e, ey]))
      subst hg
      have : updF (x :: l) n f = (x.1, f x.2) :: l := by
        conv => rhs; rw [← hr]
        simp [updF, e]
      rw [this]
      simp [dataSum]
      omega
    · have h' : fget l n = some g := by simpa [fget, e] using h
      have ih := sum_updF (f := f) hn'.2 h'
      have : updF (x :: l) n f = x :: updF l n f := by simp [updF, e]
      rw [this]
      simp [dataSum] at ih ⊢
      omega

theorem TpAt.names {w : World} {b mb : Nat} {L : TpL} {t : Tp} (h : TpAt w b mb L t) : (t.files.map (·.1)).Nodup := by
  have := h.map.keys
  rw [h.eq]
  simpa [tpMap, tpFiles, List.map_map, Function.comp_def] using this

/-- A file is another one. -/
theorem TpAt.file {w w' : World} {b mb : Nat} {L : TpL} {t : Tp} (h : TpAt w b mb L t) {n : List UInt8} {x : List UInt8 × Nat × Fl} (hx : flGet L n = some x) (f : Fl → Fl) (hu : Upd (fun k => k = x.2.1) w w')
    (hb : w'.heap[x.2.1]? = some (.cells (flCells (f x.2.2)) 150 (0, 0))) (hok : TpOk { t with files := updF t.files n f }) : TpAt w' b mb (updL L n f) { t with files := updF t.files n f } := by
  obtain ⟨hm, hxn⟩ := flGet_mem hx
  obtain ⟨n1, n2, n3⟩ := h.ne_map
  have hin : x.2.1 ∈ tpBlocks L := List.mem_map.2 ⟨x, hm, rfl⟩
  refine ⟨(hu.block b h.blkLt (fun e => n3 (by rw [e]; exact hin))).trans h.blk, ?_, ?_, by rw [updL_blocks]; exact h.apart, by rw [updL_files, ← h.eq], hok⟩
  · rw [updL_map]
    exact h.map.upd hu (fun e => n2 (by rw [e]; exact hin))
  · intro y hy
    obtain ⟨z, hz, rfl⟩ := List.mem_map.1 hy
    by_cases e : z.1 = n
    · have hzx : z = x := by
        have hn := h.names
        rw [h.eq] at hn
        have h2 : (L.map (·.1)).Nodup := by simpa [tpFiles, List.map_map, Function.comp_def] using hn
        obtain ⟨i, hi, rfl⟩ := List.mem_iff_getElem.1 hz
        obtain ⟨j, hj, rfl⟩ := List.mem_iff_getElem.1 hm
        have h3 : i = j := by
          refine Classical.byContradiction fun hne => ?_
          have h4 := List.pairwise_iff_getElem.1 h2
          rcases Nat.lt_or_gt_of_ne hne with hlt | hlt
          · exact h4 i j (by simpa using hi) (by simpa using hj) hlt (by simp [e, hxn])
          · exact h4 j i (by simpa using hj) (by simpa using hi) hlt (by simp [e, hxn])
        subst h3; rfl
      subst hzx
      rw [if_pos e]
      exact hb
    · rw [if_neg e]
      have hne : z.2.1 ≠ x.2.1 := by
        intro eb
        obtain ⟨i, hi, rfl⟩ := List.mem_iff_getElem.1 hz
        obtain ⟨j, hj, rfl⟩ := List.mem_iff_getElem.1 hm
        have h4 := List.pairwise_iff_getElem.1 h.apart
        have h3 : i ≠ j := fun hij => by subst hij; exact e hxn
        rcases Nat.lt_or_gt_of_ne h3 with hlt | hlt
        · exact h4 i j (by simpa using hi) (by simpa using hj) hlt (by simpa using eb)
        · exact h4 j i (by simpa using hj) (by simpa using hi) hlt (by simpa using eb.symm)
      exact (hu.block _ (Array.getElem?_eq_some_iff.1 (h.fls z hz)).1 hne).trans (h.fls z hz)

theorem sput_new {m : SMap} {n : List UInt8} {v : Value} (h : sget m n = none) : sput m n v = m ++ [(n, v)] := by
  have h1 : m.findIdx? (fun p => decide (p.1 = n)) = none := by
    rw [List.findIdx?_eq_none_iff]
    intro x hx
    unfold sget at h
    have h2 : m.find? (fun p => decide (p.1 = n)) = none := by simpa using h
    have := List.find?_eq_none.1 h2 x hx
    simpa using this
  exact (sput_spec n v m).1 h1

/-- A file more. -/
theorem TpAt.more {w w' : World} {b mb fb : Nat} {L : TpL} {t : Tp} (h : TpAt w b mb L t) {n : List UInt8} (hn : flGet L n = none) (hm : MapSt w' mb (sput (tpMap L) n (flPtr fb))) (hu : Upd (fun k => k = mb ∨ k = fb) w w')
    (hnew : fb ∉ tpBlocks L ∧ fb ≠ b) {f : Fl} (hf : w'.heap[fb]? = some (.cells (flCells f) 150 (0, 0))) (hok : TpOk { t with files := t.files ++ [(n, f)] }) : TpAt w' b mb (L ++ [(n, fb, f)]) { t with files := t.files ++ [(n, f)] } := by
  obtain ⟨n1, n2, n3⟩ := h.ne_map
  have hsp : sput (tpMap L) n (flPtr fb) = tpMap (L ++ [(n, fb, f)]) := by
    rw [sput_new (by rw [sget_tp, hn]; rfl)]
    simp [tpMap]
  refine ⟨(hu.block b h.blkLt (fun e => by rcases e with e | e; exact n1 e; exact hnew.2 e.symm)).trans h.blk, by rw [← hsp]; exact hm, ?_, ?_, by simp [tpFiles, h.eq], hok⟩
  · intro x hx
    rcases List.mem_append.1 hx with hx | hx
    · exact (hu.block _ (Array.getElem?_eq_some_iff.1 (h.fls x hx)).1 (fun e => by
        rcases e with e | e
        · exact n2 (List.mem_map.2 ⟨x, hx, e⟩)
        · exact hnew.1 (List.mem_map.2 ⟨x, hx, e⟩))).trans (h.fls x hx)
    · rw [List.mem_singleton.1 hx]; exact hf
  · simp only [tpBlocks, List.map_append, List.map_cons, List.map_nil]
    rw [List.nodup_append]
    refine ⟨h.apart, by simp, ?_⟩
    intro a ha c hc
    rw [List.mem_singleton.1 hc]
    exact fun e => hnew.1 (by rw [← e]; exact ha)

/-- What a tape's act leaves: the answer, the tape as it is then, what else has changed. -/
def TpTo (w : World) (b mb : Nat) (L : TpL) (t : Tp) (v : Value) (e : Ending) (w' : World) : Prop :=
  e = .returned v ∧ ∃ L', TpAt w' b mb L' t ∧ Upd (TpF b mb L) w w' ∧ ∀ k ∈ tpBlocks L', k ∈ tpBlocks L ∨ w.heap.size ≤ k
end Go.Proofs.YtcpaaleogmiamaaGreatDoor
