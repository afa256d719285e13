/- The walks of the reference's reader: sign, Open, Close, More, Done. -/
import Derived.Test.YtjkobbmdemooaaaGreatDoorBeadR3
namespace Go.Proofs.YtjkobbmdemooaaaGreatDoor
open Go.RowKit

theorem rdI_st {w : World} {p : Nat} {S : List UInt8} {st : RS} (h : RfSt w p S st) (hs : S.length ≤ 140737488355328) :
    Calls Tryz.prog 63 #[.pointer (some ⟨p, 0, none⟩)] w (RfInt w p S (rdI st)) := by
  obtain ⟨k, hk, e, hA⟩ := h
  obtain ⟨l, b⟩ := st
  have e : l = S.drop k := e
  subst e
  cases b
  · exact RrInt_go hA hk hs
  · have c2 := hA.cell2
    rw [rdI_bad rfl]
    have H := Lib.hid hA
    clear hA
    go_enter Tryz.func63, Tryz.ntmps63
    go_wp2
    exact bodyPost_ret (v := .int .i64 0) (by simp [results, Tryz.results63, go_sem]) rfl ⟨rfl, ⟨k, hk, rfl, H.out⟩, Upd.refl _ _⟩

theorem RrSign_any {w : World} {p : Nat} {S : List UInt8} {st : RS} (h : RfSt w p S st) (hs : S.length ≤ 140737488355328) (c : UInt8) :
    Calls Tryz.prog 92 #[.pointer (some ⟨p, 0, none⟩), .int .u8 (c.toNat : Int)] w fun e w' => e = .returned (.tuple #[]) ∧ RfSt w' p S (rdS c st) ∧ Upd (fun k => k = p) w w' := by
  obtain ⟨k, hk, e, hA⟩ := h
  obtain ⟨l, b⟩ := st
  have e : l = S.drop k := e
  subst e
  have H := Lib.hid hA
  have c0 := hA.cell0
  have c1 := hA.cell1
  have c2 := hA.cell2
  have f1 := hA.free 1
  have f2 := hA.free 2
  have hz := bs_size S
  have hk0 : (0 : Int) ≤ (k : Int) := by omega
  clear hA
  cases b
  · by_cases hin : k < S.length
    · have hb := bs_get S k (by rw [bs_size]; exact hin)
      have hsz : (k : Int) < ((bs S).size : Int) := by rw [bs_size]; omega
      have hdr : S.drop k = S[k] :: S.drop (k + 1) := List.drop_eq_getElem_cons hin
      obtain ⟨a, ha⟩ : ∃ a, S[k] = a := ⟨_, rfl⟩
      rw [ha] at hb hdr
      clear ha
      have hw : IntKind.i64.wrap ((k : Int) + 1) = (((k + 1 : Nat) : Nat) : Int) := by
        have e : (k : Int) + 1 = ((k + 1 : Nat) : Int) := by omega
        rw [e]; exact IntWalk.i64_in _ (by omega)
      obtain ⟨m, hm⟩ : ∃ m, k + 1 = m := ⟨_, rfl⟩
      rw [hm] at hw hdr
      have hmS : m ≤ S.length := by omega
      clear hm
      by_cases hac : a = c
      · subst hac
        have hv : rdS a (S.drop k, false) = (S.drop m, false) := by simp [rdS, hdr]
        have HV := Lib.hid hv
        clear hv hdr
        go_enter Tryz.func92, Tryz.ntmps92
        go_wp2
        go_quiet (fail)
        go_wp2
        first | go_end0 | (refine bodyPost_ret (results_none rfl _ _ _) rfl ?_)
        exact ⟨rfl, ⟨m, hmS, by rw [HV.out], by rw [HV.out]; exact H.out.set1 m⟩, upd_set (upd_drewN _ _ _) 1 _⟩
      · have hv : rdS c (S.drop k, false) = (S.drop k, true) := by simp [rdS, hdr, hac]
        have e0 : ¬ (a.toNat : Int) = (c.toNat : Int) := fun e => hac (byte_ext (by omega))
        have HV := Lib.hid hv
        clear hv hdr
        go_enter Tryz.func92, Tryz.ntmps92
        go_wp2
        go_quiet (fail)
        go_wp2
        first | go_end0 | (refine bodyPost_ret (results_none rfl _ _ _) rfl ?_)
        exact ⟨rfl, ⟨k, hk, by rw [HV.out], by rw [HV.out]; exact H.out.set2 true⟩, upd_set (upd_drewN _ _ _) 2 _⟩
    · have hd : S.drop k = [] := List.drop_eq_nil_of_le (by omega)
      have hv : rdS c (S.drop k, false) = (S.drop k, true) := by simp [rdS, hd]
      have e0 : ¬ (k : Int) < ((bs S).size : Int) := by rw [bs_size]; omega
      have HV := Lib.hid hv
      clear hv hd
      go_enter Tryz.func92, Tryz.ntmps92
      go_wp2
      go_quiet (fail)
      go_wp2
      first | go_end0 | (refine bodyPost_ret (results_none rfl _ _ _) rfl ?_)
      exact ⟨rfl, ⟨k, hk, by rw [HV.out], by rw [HV.out]; exact H.out.set2 true⟩, upd_set (upd_drewN _ _ _) 2 _⟩
  · go_enter Tryz.func92, Tryz.ntmps92
    go_wp2
    first | go_end0 | (refine bodyPost_ret (results_none rfl _ _ _) rfl ?_)
    exact ⟨rfl, by rw [rdS_bad rfl]; exact ⟨k, hk, rfl, H.out⟩, Upd.refl _ _⟩

theorem RrOpen_any {w : World} {p : Nat} {S : List UInt8} {st : RS} (h : RfSt w p S st) (hs : S.length ≤ 140737488355328) :
    Calls Tryz.prog 62 #[.pointer (some ⟨p, 0, none⟩)] w fun e w' => e = .returned (.tuple #[]) ∧ RfSt w' p S (rdS 108 st) ∧ Upd (fun k => k = p) w w' := by
  have R := Lib.hid (show Calls Tryz.prog 92 #[.pointer (some ⟨p, 0, none⟩), .int .u8 108] w _ from RrSign_any h hs 108)
  clear h
  go_enter Tryz.func62, Tryz.ntmps62
  go_wp2_with (first | (go_at_call 92; refine R.out.mono ?_; rintro e w1 ⟨rfl, h1, h2⟩))
  go_end0
  exact ⟨rfl, h1, h2⟩

theorem RrClose_any {w : World} {p : Nat} {S : List UInt8} {st : RS} (h : RfSt w p S st) (hs : S.length ≤ 140737488355328) :
    Calls Tryz.prog 64 #[.pointer (some ⟨p, 0, none⟩)] w fun e w' => e = .returned (.tuple #[]) ∧ RfSt w' p S (rdS 101 st) ∧ Upd (fun k => k = p) w w' := by
  have R := Lib.hid (show Calls Tryz.prog 92 #[.pointer (some ⟨p, 0, none⟩), .int .u8 101] w _ from RrSign_any h hs 101)
  clear h
  go_enter Tryz.func64, Tryz.ntmps64
  go_wp2_with (first | (go_at_call 92; refine R.out.mono ?_; rintro e w1 ⟨rfl, h1, h2⟩))
  go_end0
  exact ⟨rfl, h1, h2⟩

theorem RrMore_any {w : World} {p : Nat} {S : List UInt8} {st : RS} (h : RfSt w p S st) (hs : S.length ≤ 140737488355328) :
    Calls Tryz.prog 69 #[.pointer (some ⟨p, 0, none⟩)] w fun e w' => e = .returned (.bool (rdM st)) ∧ Below w.heap.size w w' ∧ RfSt w' p S st := by
  obtain ⟨k, hk, e, hA⟩ := h
  obtain ⟨l, b⟩ := st
  have e : l = S.drop k := e
  subst e
  have H := Lib.hid hA
  have c0 := hA.cell0
  have c1 := hA.cell1
  have c2 := hA.cell2
  have hz := bs_size S
  have hk0 : (0 : Int) ≤ (k : Int) := by omega
  clear hA
  cases b
  · by_cases hin : k < S.length
    · have hb := bs_get S k (by rw [bs_size]; exact hin)
      have hsz : (k : Int) < ((bs S).size : Int) := by rw [bs_size]; omega
      have hdr : S.drop k = S[k] :: S.drop (k + 1) := List.drop_eq_getElem_cons hin
      obtain ⟨a, ha⟩ : ∃ a, S[k] = a := ⟨_, rfl⟩
      rw [ha] at hb hdr
      clear ha
      by_cases hac : a = 101
      · subst hac
        have hv : rdM (S.drop k, false) = false := by simp [rdM, hdr]
        have HV := Lib.hid hv
        clear hv hdr
        go_enter Tryz.func69, Tryz.ntmps69
        go_wp2
        go_quiet (fail)
        go_wp2
        go_ret
        exact ⟨ret_b (by rw [HV.out]), below_drewN (Below.refl _ _) _, ⟨k, hk, rfl, H.out⟩⟩
      · have hv : rdM (S.drop k, false) = true := by simp [rdM, hdr, hac]
        have e0 : ¬ (a.toNat : Int) = 101 := fun e => hac (byte_ext (by have e48 : (101 : UInt8).toNat = 101 := rfl; omega))
        have e0' : ((a.toNat : Int) != 101) = true := by rw [bne_iff_ne]; exact e0
        have HV := Lib.hid hv
        clear hv hdr
        go_enter Tryz.func69, Tryz.ntmps69
        go_wp2
        go_quiet (fail)
        go_wp2
        go_ret
        exact ⟨ret_b (by rw [HV.out]), below_drewN (Below.refl _ _) _, ⟨k, hk, rfl, H.out⟩⟩
    · have hd : S.drop k = [] := List.drop_eq_nil_of_le (by omega)
      have hv : rdM (S.drop k, false) = false := by simp [rdM, hd]
      have e0 : ¬ (k : Int) < ((bs S).size : Int) := by rw [bs_size]; omega
      have HV := Lib.hid hv
      clear hv hd
      go_enter Tryz.func69, Tryz.ntmps69
      go_wp2
      go_quiet (fail)
      go_wp2
      go_ret
      exact ⟨ret_b (by rw [HV.out]), below_drewN (Below.refl _ _) _, ⟨k, hk, rfl, H.out⟩⟩
  · have hv : rdM (S.drop k, true) = false := rfl
    have HV := Lib.hid hv
    clear hv
    go_enter Tryz.func69, Tryz.ntmps69
    go_wp2
    go_quiet (fail)
    go_wp2
    go_ret
    exact ⟨ret_b (by rw [HV.out]), below_drewN (Below.refl _ _) _, ⟨k, hk, rfl, H.out⟩⟩

theorem RrDone_any {w : World} {p : Nat} {S : List UInt8} {st : RS} (h : RfSt w p S st) (hs : S.length ≤ 140737488355328) :
    Calls Tryz.prog 65 #[.pointer (some ⟨p, 0, none⟩)] w fun e w' => e = .returned (.int .i64 (if rdD st = true then 0 else 3)) ∧ Below w.heap.size w w' := by
  obtain ⟨k, hk, e, hA⟩ := h
  obtain ⟨l, b⟩ := st
  have e : l = S.drop k := e
  subst e
  have c0 := hA.cell0
  have c1 := hA.cell1
  have c2 := hA.cell2
  have hz := bs_size S
  have hk0 : (0 : Int) ≤ (k : Int) := by omega
  clear hA
  have hD : rdD (S.drop k, b) = (!b && (S.drop k).isEmpty) := rfl
  rw [hD]
  cases b
  · by_cases hin : k < S.length
    · have hsz : (k : Int) < ((bs S).size : Int) := by rw [bs_size]; omega
      have hdr : S.drop k = S[k] :: S.drop (k + 1) := List.drop_eq_getElem_cons hin
      rw [hdr]
      clear hdr hD
      go_enter Tryz.func65, Tryz.ntmps65
      go_wp2
      go_quiet (fail)
      go_wp2
      go_ret
      exact ⟨rfl, below_drewN (Below.refl _ _) _⟩
    · have hd : S.drop k = [] := List.drop_eq_nil_of_le (by omega)
      have e0 : ¬ (k : Int) < ((bs S).size : Int) := by rw [bs_size]; omega
      rw [hd]
      clear hd hD
      go_enter Tryz.func65, Tryz.ntmps65
      go_wp2
      go_quiet (fail)
      go_wp2
      go_ret
      exact ⟨rfl, below_drewN (Below.refl _ _) _⟩
  · clear hD
    go_enter Tryz.func65, Tryz.ntmps65
    go_wp2
    go_quiet (fail)
    go_wp2
    go_ret
    exact ⟨rfl, below_drewN (Below.refl _ _) _⟩
end Go.Proofs.YtjkobbmdemooaaaGreatDoor
