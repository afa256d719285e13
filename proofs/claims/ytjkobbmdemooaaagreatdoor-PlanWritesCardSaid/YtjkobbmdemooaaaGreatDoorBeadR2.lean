/- The walk of the reference's number. Printed by gen_number.py. -/
import Derived.Test.YtjkobbmdemooaaaGreatDoorBeadR
namespace Go.Proofs.YtjkobbmdemooaaaGreatDoor
open Go.RowKit

theorem goNum_end {l : List UInt8} {k u : Nat} (h : l = []) : goNum l k u = some (k, u, l) := by subst h; rfl
theorem goNum_stop {l : List UInt8} {k u : Nat} {c : UInt8} {r : List UInt8} (h : l = c :: r) (hc : ¬ (k < 20 ∧ isDigB c = true)) : goNum l k u = some (k, u, l) := by subst h; rw [goNum, if_neg hc]
theorem refNum_stop {l r : List UInt8} {k u : Nat} (h : goNum l 0 0 = some (k, u, r)) : refNum l = if (1 < k ∧ l.head? = some 48) ∨ startsDig r = true then (0, 0) else (k, u) := by
  unfold refNum
  rw [h]

set_option maxRecDepth 100000 in
set_option maxHeartbeats 4000000 in
theorem number_any (S : List UInt8) (at' : Nat) (ha : at' ≤ S.length) (hs : S.length ≤ 140737488355328) (w : World) :
    Calls Tryz.prog 93 #[.string (bs S), .int .i64 at'] w fun e w' => e = .returned (.tuple #[.int .i64 (refNum (S.drop at')).1, .int .u64 (refNum (S.drop at')).2]) ∧ w' = w := by
  have hz := bs_size S
  obtain ⟨R, hR⟩ : ∃ R, goNum (S.drop at') 0 0 = R := ⟨_, rfl⟩
  have HR := Lib.hid hR
  clear hR
  go_enter Tryz.func93, Tryz.ntmps93
  go_wp2
  go_loopg [6, 7, 8] 20 (fun gk k u _ wr => ∃ kk uu : Nat, gk = 20 - kk ∧ k = .int .i64 kk ∧ u = .int .u64 uu ∧ at' + kk ≤ S.length ∧ kk ≤ 20 ∧ uu < 18446744073709551616 ∧ goNum (S.drop (at' + kk)) kk uu = R ∧ wr = w)
  case atStart => exact ⟨0, 0, rfl, rfl, rfl, by omega, by omega, by omega, HR.out, rfl⟩
  case round =>
    obtain ⟨kk, uu, rfl, rfl, rfl, hk1, hk2, hu, hg, rfl⟩ := hrel
    have w1 : IntKind.i64.wrap ((at' : Int) + (kk : Int)) = (at' : Int) + (kk : Int) := IntWalk.i64_in _ (by omega)
    have w2 : (0 : Int) ≤ (at' : Int) + (kk : Int) := by omega
    have w3 : ((at' : Int) + (kk : Int)).toNat = at' + kk := by omega
    by_cases hin : at' + kk < S.length
    · have hsz : ((at' : Int) + (kk : Int)) < ((bs S).size : Int) := by rw [bs_size]; omega
      have hb := bs_get S (at' + kk) (by rw [bs_size]; exact hin)
      have hdr : S.drop (at' + kk) = S[at' + kk] :: S.drop (at' + kk + 1) := List.drop_eq_getElem_cons hin
      obtain ⟨c, hc⟩ : ∃ c, S[at' + kk] = c := ⟨_, rfl⟩
      rw [hc] at hb hdr
      clear hc
      have HD := Lib.hid hdr
      by_cases hgo : kk < 20 ∧ isDigB c = true
      · obtain ⟨hk20, hdig⟩ := hgo
        obtain ⟨d1, d2⟩ := (isDigB_iff c).1 hdig
        have e1 : (48 : Int) ≤ (c.toNat : Int) := by omega
        have e2 : (c.toNat : Int) ≤ 57 := by omega
        have e5 : (kk : Int) < 20 := by omega
        by_cases ho : (18446744073709551615 - (c.toNat - 48)) / 10 < uu
        · have hno : R = none := by rw [← hg, hdr, goNum, if_pos ⟨hk20, hdig⟩, if_pos ho]
          have e3 : (18446744073709551615 - ((c.toNat : Int) - 48)) / 10 < (uu : Int) := by omega
          have hv : refNum (S.drop at') = (0, 0) := by unfold refNum; rw [HR.out, hno]
          have HV := Lib.hid hv
          clear hv hno hg hdr
          go_wp2
          exact bodyPost_ret (v := .tuple #[.int .i64 0, .int .u64 0]) (by simp [results, Tryz.results93, go_sem]) rfl ⟨by rw [HV.out] <;> rfl, rfl⟩
        · have hnx : goNum (S.drop (at' + (kk + 1))) (kk + 1) (uu * 10 + (c.toNat - 48)) = R := by rw [← hg, hdr, goNum, if_pos ⟨hk20, hdig⟩, if_neg ho]; rfl
          have e3 : ¬ (18446744073709551615 - ((c.toNat : Int) - 48)) / 10 < (uu : Int) := by omega
          have HN := Lib.hid hnx
          clear hnx hg hdr
          go_wp2
          go_roundg (20 - (kk + 1))
          case measure => omega
          case rel => exact ⟨kk + 1, uu * 10 + (c.toNat - 48), rfl, by go_num, by go_num, by omega, by omega, by omega, HN.out, rfl⟩
      · have hstop := goNum_stop (k := kk) (u := uu) hdr hgo
        rw [hg] at hstop
        have HX := Lib.hid (refNum_stop (HR.out.trans hstop))
        have hsd0 : startsDig (S.drop (at' + kk)) = isDigB c := by rw [hdr]; rfl
        clear hstop hg hdr
        by_cases hk20 : kk < 20
        · have hnd : ¬ (48 ≤ c.toNat ∧ c.toNat ≤ 57) := fun h => hgo ⟨hk20, (isDigB_iff c).2 h⟩
          have hf : isDigB c = false := by rw [Bool.eq_false_iff]; exact fun h => hnd ((isDigB_iff c).1 h)
          rw [hf] at hsd0
          have e5 : (kk : Int) < 20 := by omega
          have HSD := Lib.hid hsd0
          clear hsd0
          by_cases hlow : c.toNat < 48
          · have e1 : ¬ (48 : Int) ≤ (c.toNat : Int) := by omega
            by_cases p1 : 1 < kk
            · have hat : at' < S.length := by omega
              have hb0 := bs_get S at' (by rw [bs_size]; exact hat)
              have hsz0 : (at' : Int) < ((bs S).size : Int) := by rw [bs_size]; omega
              have hh0 : (S.drop at').head? = some S[at'] := by rw [List.head?_drop, List.getElem?_eq_getElem hat]
              obtain ⟨a0, ha0⟩ : ∃ a0, S[at'] = a0 := ⟨_, rfl⟩
              rw [ha0] at hb0 hh0
              clear ha0
              by_cases p2 : a0 = 48
              · subst p2
                have hv : refNum (S.drop at') = (0, 0) := by rw [HX.out, if_pos (.inl ⟨p1, hh0⟩)]
                have HV := Lib.hid hv
                clear hv
                go_wp2
                all_goals exact bodyPost_ret (v := .tuple #[.int .i64 0, .int .u64 0]) (by simp [results, Tryz.results93, go_sem]) rfl ⟨by rw [HV.out] <;> rfl, rfl⟩
              · have p2' : ¬ (a0.toNat : Int) = 48 := fun e => p2 (byte_ext (by have e48 : (48 : UInt8).toNat = 48 := rfl; omega))
                have p12 : ¬ (1 < kk ∧ (S.drop at').head? = some 48) := fun h => p2 (by rw [hh0] at h; exact Option.some.inj h.2)
                have hsd : startsDig (S.drop (at' + kk)) = false := HSD.out
                have hv : refNum (S.drop at') = (kk, uu) := by rw [HX.out, if_neg (by rintro (hh | hh); exact p12 hh; rw [hsd] at hh; cases hh)]
                have HV := Lib.hid hv
                clear hv
                go_wp2
                all_goals exact bodyPost_ret (v := .tuple #[.int .i64 kk, .int .u64 uu]) (by simp [results, Tryz.results93, go_sem]) rfl ⟨by rw [HV.out] <;> rfl, rfl⟩
            · have p12 : ¬ (1 < kk ∧ (S.drop at').head? = some 48) := fun h => p1 h.1
              have hsd : startsDig (S.drop (at' + kk)) = false := HSD.out
              have hv : refNum (S.drop at') = (kk, uu) := by rw [HX.out, if_neg (by rintro (hh | hh); exact p12 hh; rw [hsd] at hh; cases hh)]
              have HV := Lib.hid hv
              clear hv
              go_wp2
              all_goals exact bodyPost_ret (v := .tuple #[.int .i64 kk, .int .u64 uu]) (by simp [results, Tryz.results93, go_sem]) rfl ⟨by rw [HV.out] <;> rfl, rfl⟩
          · have e1 : (48 : Int) ≤ (c.toNat : Int) := by omega
            have e2 : ¬ (c.toNat : Int) ≤ 57 := by omega
            by_cases p1 : 1 < kk
            · have hat : at' < S.length := by omega
              have hb0 := bs_get S at' (by rw [bs_size]; exact hat)
              have hsz0 : (at' : Int) < ((bs S).size : Int) := by rw [bs_size]; omega
              have hh0 : (S.drop at').head? = some S[at'] := by rw [List.head?_drop, List.getElem?_eq_getElem hat]
              obtain ⟨a0, ha0⟩ : ∃ a0, S[at'] = a0 := ⟨_, rfl⟩
              rw [ha0] at hb0 hh0
              clear ha0
              by_cases p2 : a0 = 48
              · subst p2
                have hv : refNum (S.drop at') = (0, 0) := by rw [HX.out, if_pos (.inl ⟨p1, hh0⟩)]
                have HV := Lib.hid hv
                clear hv
                go_wp2
                all_goals exact bodyPost_ret (v := .tuple #[.int .i64 0, .int .u64 0]) (by simp [results, Tryz.results93, go_sem]) rfl ⟨by rw [HV.out] <;> rfl, rfl⟩
              · have p2' : ¬ (a0.toNat : Int) = 48 := fun e => p2 (byte_ext (by have e48 : (48 : UInt8).toNat = 48 := rfl; omega))
                have p12 : ¬ (1 < kk ∧ (S.drop at').head? = some 48) := fun h => p2 (by rw [hh0] at h; exact Option.some.inj h.2)
                have hsd : startsDig (S.drop (at' + kk)) = false := HSD.out
                have hv : refNum (S.drop at') = (kk, uu) := by rw [HX.out, if_neg (by rintro (hh | hh); exact p12 hh; rw [hsd] at hh; cases hh)]
                have HV := Lib.hid hv
                clear hv
                go_wp2
                all_goals exact bodyPost_ret (v := .tuple #[.int .i64 kk, .int .u64 uu]) (by simp [results, Tryz.results93, go_sem]) rfl ⟨by rw [HV.out] <;> rfl, rfl⟩
            · have p12 : ¬ (1 < kk ∧ (S.drop at').head? = some 48) := fun h => p1 h.1
              have hsd : startsDig (S.drop (at' + kk)) = false := HSD.out
              have hv : refNum (S.drop at') = (kk, uu) := by rw [HX.out, if_neg (by rintro (hh | hh); exact p12 hh; rw [hsd] at hh; cases hh)]
              have HV := Lib.hid hv
              clear hv
              go_wp2
              all_goals exact bodyPost_ret (v := .tuple #[.int .i64 kk, .int .u64 uu]) (by simp [results, Tryz.results93, go_sem]) rfl ⟨by rw [HV.out] <;> rfl, rfl⟩
        · have e5 : ¬ (kk : Int) < 20 := by omega
          have HSD := Lib.hid hsd0
          clear hsd0
          by_cases hlow : c.toNat < 48
          · have e1 : ¬ (48 : Int) ≤ (c.toNat : Int) := by omega
            have hf : isDigB c = false := by rw [Bool.eq_false_iff]; exact fun h => by have := (isDigB_iff c).1 h; omega
            by_cases p1 : 1 < kk
            · have hat : at' < S.length := by omega
              have hb0 := bs_get S at' (by rw [bs_size]; exact hat)
              have hsz0 : (at' : Int) < ((bs S).size : Int) := by rw [bs_size]; omega
              have hh0 : (S.drop at').head? = some S[at'] := by rw [List.head?_drop, List.getElem?_eq_getElem hat]
              obtain ⟨a0, ha0⟩ : ∃ a0, S[at'] = a0 := ⟨_, rfl⟩
              rw [ha0] at hb0 hh0
              clear ha0
              by_cases p2 : a0 = 48
              · subst p2
                have hv : refNum (S.drop at') = (0, 0) := by rw [HX.out, if_pos (.inl ⟨p1, hh0⟩)]
                have HV := Lib.hid hv
                clear hv
                go_wp2
                all_goals exact bodyPost_ret (v := .tuple #[.int .i64 0, .int .u64 0]) (by simp [results, Tryz.results93, go_sem]) rfl ⟨by rw [HV.out] <;> rfl, rfl⟩
              · have p2' : ¬ (a0.toNat : Int) = 48 := fun e => p2 (byte_ext (by have e48 : (48 : UInt8).toNat = 48 := rfl; omega))
                have p12 : ¬ (1 < kk ∧ (S.drop at').head? = some 48) := fun h => p2 (by rw [hh0] at h; exact Option.some.inj h.2)
                have hsd : startsDig (S.drop (at' + kk)) = false := HSD.out.trans hf
                have hv : refNum (S.drop at') = (kk, uu) := by rw [HX.out, if_neg (by rintro (hh | hh); exact p12 hh; rw [hsd] at hh; cases hh)]
                have HV := Lib.hid hv
                clear hv
                go_wp2
                all_goals exact bodyPost_ret (v := .tuple #[.int .i64 kk, .int .u64 uu]) (by simp [results, Tryz.results93, go_sem]) rfl ⟨by rw [HV.out] <;> rfl, rfl⟩
            · have p12 : ¬ (1 < kk ∧ (S.drop at').head? = some 48) := fun h => p1 h.1
              have hsd : startsDig (S.drop (at' + kk)) = false := HSD.out.trans hf
              have hv : refNum (S.drop at') = (kk, uu) := by rw [HX.out, if_neg (by rintro (hh | hh); exact p12 hh; rw [hsd] at hh; cases hh)]
              have HV := Lib.hid hv
              clear hv
              go_wp2
              all_goals exact bodyPost_ret (v := .tuple #[.int .i64 kk, .int .u64 uu]) (by simp [results, Tryz.results93, go_sem]) rfl ⟨by rw [HV.out] <;> rfl, rfl⟩
          · have e1 : (48 : Int) ≤ (c.toNat : Int) := by omega
            by_cases hhigh : c.toNat ≤ 57
            · have e2 : (c.toNat : Int) ≤ 57 := by omega
              have hf : isDigB c = true := (isDigB_iff c).2 ⟨by omega, hhigh⟩
              by_cases p1 : 1 < kk
              · have hat : at' < S.length := by omega
                have hb0 := bs_get S at' (by rw [bs_size]; exact hat)
                have hsz0 : (at' : Int) < ((bs S).size : Int) := by rw [bs_size]; omega
                have hh0 : (S.drop at').head? = some S[at'] := by rw [List.head?_drop, List.getElem?_eq_getElem hat]
                obtain ⟨a0, ha0⟩ : ∃ a0, S[at'] = a0 := ⟨_, rfl⟩
                rw [ha0] at hb0 hh0
                clear ha0
                by_cases p2 : a0 = 48
                · subst p2
                  have hv : refNum (S.drop at') = (0, 0) := by rw [HX.out, if_pos (.inl ⟨p1, hh0⟩)]
                  have HV := Lib.hid hv
                  clear hv
                  go_wp2
                  all_goals exact bodyPost_ret (v := .tuple #[.int .i64 0, .int .u64 0]) (by simp [results, Tryz.results93, go_sem]) rfl ⟨by rw [HV.out] <;> rfl, rfl⟩
                · have p2' : ¬ (a0.toNat : Int) = 48 := fun e => p2 (byte_ext (by have e48 : (48 : UInt8).toNat = 48 := rfl; omega))
                  have p12 : ¬ (1 < kk ∧ (S.drop at').head? = some 48) := fun h => p2 (by rw [hh0] at h; exact Option.some.inj h.2)
                  have hsd : startsDig (S.drop (at' + kk)) = true := HSD.out.trans hf
                  have hv : refNum (S.drop at') = (0, 0) := by rw [HX.out, if_pos (.inr hsd)]
                  have HV := Lib.hid hv
                  clear hv
                  go_wp2
                  all_goals exact bodyPost_ret (v := .tuple #[.int .i64 0, .int .u64 0]) (by simp [results, Tryz.results93, go_sem]) rfl ⟨by rw [HV.out] <;> rfl, rfl⟩
              · have p12 : ¬ (1 < kk ∧ (S.drop at').head? = some 48) := fun h => p1 h.1
                have hsd : startsDig (S.drop (at' + kk)) = true := HSD.out.trans hf
                have hv : refNum (S.drop at') = (0, 0) := by rw [HX.out, if_pos (.inr hsd)]
                have HV := Lib.hid hv
                clear hv
                go_wp2
                all_goals exact bodyPost_ret (v := .tuple #[.int .i64 0, .int .u64 0]) (by simp [results, Tryz.results93, go_sem]) rfl ⟨by rw [HV.out] <;> rfl, rfl⟩
            · have e2 : ¬ (c.toNat : Int) ≤ 57 := by omega
              have hf : isDigB c = false := by rw [Bool.eq_false_iff]; exact fun h => by have := (isDigB_iff c).1 h; omega
              by_cases p1 : 1 < kk
              · have hat : at' < S.length := by omega
                have hb0 := bs_get S at' (by rw [bs_size]; exact hat)
                have hsz0 : (at' : Int) < ((bs S).size : Int) := by rw [bs_size]; omega
                have hh0 : (S.drop at').head? = some S[at'] := by rw [List.head?_drop, List.getElem?_eq_getElem hat]
                obtain ⟨a0, ha0⟩ : ∃ a0, S[at'] = a0 := ⟨_, rfl⟩
                rw [ha0] at hb0 hh0
                clear ha0
                by_cases p2 : a0 = 48
                · subst p2
                  have hv : refNum (S.drop at') = (0, 0) := by rw [HX.out, if_pos (.inl ⟨p1, hh0⟩)]
                  have HV := Lib.hid hv
                  clear hv
                  go_wp2
                  all_goals exact bodyPost_ret (v := .tuple #[.int .i64 0, .int .u64 0]) (by simp [results, Tryz.results93, go_sem]) rfl ⟨by rw [HV.out] <;> rfl, rfl⟩
                · have p2' : ¬ (a0.toNat : Int) = 48 := fun e => p2 (byte_ext (by have e48 : (48 : UInt8).toNat = 48 := rfl; omega))
                  have p12 : ¬ (1 < kk ∧ (S.drop at').head? = some 48) := fun h => p2 (by rw [hh0] at h; exact Option.some.inj h.2)
                  have hsd : startsDig (S.drop (at' + kk)) = false := HSD.out.trans hf
                  have hv : refNum (S.drop at') = (kk, uu) := by rw [HX.out, if_neg (by rintro (hh | hh); exact p12 hh; rw [hsd] at hh; cases hh)]
                  have HV := Lib.hid hv
                  clear hv
                  go_wp2
                  all_goals exact bodyPost_ret (v := .tuple #[.int .i64 kk, .int .u64 uu]) (by simp [results, Tryz.results93, go_sem]) rfl ⟨by rw [HV.out] <;> rfl, rfl⟩
              · have p12 : ¬ (1 < kk ∧ (S.drop at').head? = some 48) := fun h => p1 h.1
                have hsd : startsDig (S.drop (at' + kk)) = false := HSD.out.trans hf
                have hv : refNum (S.drop at') = (kk, uu) := by rw [HX.out, if_neg (by rintro (hh | hh); exact p12 hh; rw [hsd] at hh; cases hh)]
                have HV := Lib.hid hv
                clear hv
                go_wp2
                all_goals exact bodyPost_ret (v := .tuple #[.int .i64 kk, .int .u64 uu]) (by simp [results, Tryz.results93, go_sem]) rfl ⟨by rw [HV.out] <;> rfl, rfl⟩
    · have hnil : S.drop (at' + kk) = [] := List.drop_eq_nil_of_le (by omega)
      have hstop := goNum_end (k := kk) (u := uu) hnil
      rw [hg] at hstop
      have HX := Lib.hid (refNum_stop (HR.out.trans hstop))
      have HSD := Lib.hid (show startsDig (S.drop (at' + kk)) = false by rw [hnil]; rfl)
      have e0 : ¬ ((at' : Int) + (kk : Int)) < ((bs S).size : Int) := by rw [bs_size]; omega
      clear hstop hg hnil
      by_cases p1 : 1 < kk
      · have hat : at' < S.length := by omega
        have hb0 := bs_get S at' (by rw [bs_size]; exact hat)
        have hsz0 : (at' : Int) < ((bs S).size : Int) := by rw [bs_size]; omega
        have hh0 : (S.drop at').head? = some S[at'] := by rw [List.head?_drop, List.getElem?_eq_getElem hat]
        obtain ⟨a0, ha0⟩ : ∃ a0, S[at'] = a0 := ⟨_, rfl⟩
        rw [ha0] at hb0 hh0
        clear ha0
        by_cases p2 : a0 = 48
        · subst p2
          have hv : refNum (S.drop at') = (0, 0) := by rw [HX.out, if_pos (.inl ⟨p1, hh0⟩)]
          have HV := Lib.hid hv
          clear hv
          go_wp2
          all_goals exact bodyPost_ret (v := .tuple #[.int .i64 0, .int .u64 0]) (by simp [results, Tryz.results93, go_sem]) rfl ⟨by rw [HV.out] <;> rfl, rfl⟩
        · have p2' : ¬ (a0.toNat : Int) = 48 := fun e => p2 (byte_ext (by have e48 : (48 : UInt8).toNat = 48 := rfl; omega))
          have p12 : ¬ (1 < kk ∧ (S.drop at').head? = some 48) := fun h => p2 (by rw [hh0] at h; exact Option.some.inj h.2)
          have hsd : startsDig (S.drop (at' + kk)) = false := HSD.out
          have hv : refNum (S.drop at') = (kk, uu) := by rw [HX.out, if_neg (by rintro (hh | hh); exact p12 hh; rw [hsd] at hh; cases hh)]
          have HV := Lib.hid hv
          clear hv
          go_wp2
          all_goals exact bodyPost_ret (v := .tuple #[.int .i64 kk, .int .u64 uu]) (by simp [results, Tryz.results93, go_sem]) rfl ⟨by rw [HV.out] <;> rfl, rfl⟩
      · have p12 : ¬ (1 < kk ∧ (S.drop at').head? = some 48) := fun h => p1 h.1
        have hsd : startsDig (S.drop (at' + kk)) = false := HSD.out
        have hv : refNum (S.drop at') = (kk, uu) := by rw [HX.out, if_neg (by rintro (hh | hh); exact p12 hh; rw [hsd] at hh; cases hh)]
        have HV := Lib.hid hv
        clear hv
        go_wp2
        all_goals exact bodyPost_ret (v := .tuple #[.int .i64 kk, .int .u64 uu]) (by simp [results, Tryz.results93, go_sem]) rfl ⟨by rw [HV.out] <;> rfl, rfl⟩
end Go.Proofs.YtjkobbmdemooaaaGreatDoor
