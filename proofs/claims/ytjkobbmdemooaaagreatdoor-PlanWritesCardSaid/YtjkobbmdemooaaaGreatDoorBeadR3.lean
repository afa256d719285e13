/- The walks of the reference's reader. Its Int is printed by gen_rrint.py. -/
import Derived.Test.YtjkobbmdemooaaaGreatDoorBeadR2
namespace Go.Proofs.YtjkobbmdemooaaaGreatDoor
open Go.RowKit

/-- The reference's reader in memory: all its bytes, its place, whether it is wrong. -/
def RfAt (w : World) (p : Nat) (S : List UInt8) (k : Nat) (b : Bool) : Prop := w.heap[p]? = some (.cells #[.string (bs S), .int .i64 (k : Int), .bool b] 102 (0, 0))

theorem RfAt.cell0 {w : World} {p : Nat} {S : List UInt8} {k : Nat} {b : Bool} (h : RfAt w p S k b) : w.cell? ⟨p, 0, none⟩ = some (.string (bs S)) := by rw [cell_of_row w p 0 _ _ _ h]; rfl
theorem RfAt.cell1 {w : World} {p : Nat} {S : List UInt8} {k : Nat} {b : Bool} (h : RfAt w p S k b) : w.cell? ⟨p, 1, none⟩ = some (.int .i64 (k : Int)) := by rw [cell_of_row w p 1 _ _ _ h]; rfl
theorem RfAt.cell2 {w : World} {p : Nat} {S : List UInt8} {k : Nat} {b : Bool} (h : RfAt w p S k b) : w.cell? ⟨p, 2, none⟩ = some (.bool b) := by rw [cell_of_row w p 2 _ _ _ h]; rfl
theorem RfAt.free {w : World} {p : Nat} {S : List UInt8} {k : Nat} {b : Bool} (h : RfAt w p S k b) (o : Nat) : w.frozen? ⟨p, o, none⟩ = false := by simp [World.frozen?, show w.heap[p]? = _ from h]
theorem RfAt.lt {w : World} {p : Nat} {S : List UInt8} {k : Nat} {b : Bool} (h : RfAt w p S k b) : p < w.heap.size := (Array.getElem?_eq_some_iff.1 h).1
theorem RfAt.set1 {w : World} {p : Nat} {S : List UInt8} {k : Nat} {b : Bool} (h : RfAt w p S k b) (k' : Nat) : RfAt (w.setCell ⟨p, 1, none⟩ (.int .i64 (k' : Int))) p S k' b := by
  unfold RfAt at h ⊢
  rw [setCell_same h]; rfl
theorem RfAt.set2 {w : World} {p : Nat} {S : List UInt8} {k : Nat} {b : Bool} (h : RfAt w p S k b) (b' : Bool) : RfAt (w.setCell ⟨p, 2, none⟩ (.bool b')) p S k b' := by
  unfold RfAt at h ⊢
  rw [setCell_same h]; rfl
theorem RfAt.drew {w : World} {p : Nat} {S : List UInt8} {k : Nat} {b : Bool} (h : RfAt w p S k b) : RfAt w.drew p S k b := h

/-- The reader's state, as the plain readers have it. -/
def RfSt (w : World) (p : Nat) (S : List UInt8) (st : RS) : Prop := ∃ k, k ≤ S.length ∧ st.1 = S.drop k ∧ RfAt w p S k st.2

theorem rInt_calc {t M : List UInt8} {ng : Bool} {n u : Nat} (h1 : magOf t = M) (h2 : isNeg t = ng) (h3 : refNum M = (n, u)) :
    rInt (105 :: t) = if 0 < n ∧ (M.drop n).head? = some 101 ∧ (ng = false ∧ u < 9223372036854775808 ∨ ng = true ∧ 0 < u ∧ u ≤ 9223372036854775808) then
      some (if ng = true then -(u : Int) else (u : Int), M.drop (n + 1)) else none := by
  unfold rInt
  rw [List.tail_cons, h1, h2, h3]
  simp

theorem rInt_head {s : List UInt8} (h : s.head? ≠ some 105) : rInt s = none := by
  unfold rInt
  rw [if_neg]
  exact fun hh => h hh.1

theorem rdI_none {s : List UInt8} (h : rInt s = none) : rdI (s, false) = (0, (s, true)) := by
  rw [rInt_eq] at h
  simp [rdI, h]
theorem rdI_some {s : List UInt8} {n : Int} {r : List UInt8} (h : rInt s = some (n, r)) : rdI (s, false) = (n, (r, false)) := by
  rw [rInt_eq] at h
  simp [rdI, h]

def RfInt (w : World) (p : Nat) (S : List UInt8) (r : Int × RS) (e : Ending) (w' : World) : Prop :=
  e = .returned (.int .i64 r.1) ∧ RfSt w' p S r.2 ∧ Upd (fun k => k = p) w w'

set_option maxRecDepth 100000 in
set_option maxHeartbeats 4000000 in
theorem RrInt_go {w : World} {p : Nat} {S : List UInt8} {k : Nat} (h : RfAt w p S k false) (hk : k ≤ S.length) (hs : S.length ≤ 140737488355328) :
    Calls Tryz.prog 63 #[.pointer (some ⟨p, 0, none⟩)] w (RfInt w p S (rdI (S.drop k, false))) := by
  have H := Lib.hid h
  have c0 := h.cell0
  have c1 := h.cell1
  have c2 := h.cell2
  have f1 := h.free 1
  have f2 := h.free 2
  have hz := bs_size S
  clear h
  have num := fun (m : Nat) (hm : m ≤ S.length) (w' : World) => number_any S m hm hs w'
  have HNUM := Lib.hid num
  clear num
  have hk0 : (0 : Int) ≤ (k : Int) := by omega
  by_cases hin : k < S.length
  case neg =>
    have hd : S.drop k = [] := List.drop_eq_nil_of_le (by omega)
    have hv : rdI (S.drop k, false) = (0, (S.drop k, true)) := rdI_none (rInt_head (by rw [hd]; simp))
    have e0 : ¬ (k : Int) < ((bs S).size : Int) := by rw [bs_size]; omega
    have HV := Lib.hid hv
    clear hv hd
    go_enter Tryz.func63, Tryz.ntmps63
    go_wp2
    exact bodyPost_ret (v := .int .i64 0) (by simp [results, Tryz.results63, go_sem]) rfl ⟨by rw [HV.out], ⟨k, hk, by rw [HV.out], by rw [HV.out]; exact H.out.set2 true⟩, upd_set (Upd.refl _ _) 2 _⟩
  have hb := bs_get S k (by rw [bs_size]; exact hin)
  have hsz : (k : Int) < ((bs S).size : Int) := by rw [bs_size]; omega
  have hdr : S.drop k = S[k] :: S.drop (k + 1) := List.drop_eq_getElem_cons hin
  obtain ⟨c, hc⟩ : ∃ c, S[k] = c := ⟨_, rfl⟩
  rw [hc] at hb hdr
  clear hc
  by_cases h105 : c = 105
  case neg =>
    have hv : rdI (S.drop k, false) = (0, (S.drop k, true)) := rdI_none (rInt_head (by rw [hdr]; simpa using h105))
    have e0 : ¬ (c.toNat : Int) = 105 := fun e => h105 (byte_ext (by have e48 : (105 : UInt8).toNat = 105 := rfl; omega))
    have HV := Lib.hid hv
    clear hv hdr
    go_enter Tryz.func63, Tryz.ntmps63
    go_wp2
    exact bodyPost_ret (v := .int .i64 0) (by simp [results, Tryz.results63, go_sem]) rfl ⟨by rw [HV.out], ⟨k, hk, by rw [HV.out], by rw [HV.out]; exact H.out.set2 true⟩, upd_set (Upd.refl _ _) 2 _⟩
  subst h105
  obtain ⟨m1, hm1⟩ : ∃ m1, k + 1 = m1 := ⟨_, rfl⟩
  rw [hm1] at hdr
  have HD := Lib.hid hdr
  have a1 : IntKind.i64.wrap ((k : Int) + 1) = (m1 : Int) := by
    have e : (k : Int) + 1 = (m1 : Int) := by omega
    rw [e]; exact IntWalk.i64_in _ (by omega)
  have a10 : (0 : Int) ≤ (m1 : Int) := by omega
  clear hdr
  by_cases hin1 : m1 < S.length
  case neg =>
    have hd1 : S.drop m1 = [] := List.drop_eq_nil_of_le (by omega)
    have hN := HNUM.out m1 (by omega)
    have hr0 : refNum (S.drop m1) = (0, 0) := by rw [hd1]; rfl
    rw [hr0] at hN
    dsimp only at hN
    have HN := Lib.hid hN
    have hcalc := rInt_calc (t := S.drop m1) (M := S.drop m1) (ng := false) (by rw [hd1]; rfl) (by rw [hd1]; rfl) hr0
    rw [← HD.out, if_neg (fun h => absurd h.1 (by decide))] at hcalc
    have e0 : ¬ (m1 : Int) < ((bs S).size : Int) := by rw [bs_size]; omega
    have a3 : IntKind.i64.wrap (m1 : Int) = (m1 : Int) := IntWalk.i64_in _ (by omega)
    have HC := Lib.hid hcalc
    clear hN HNUM hd1 hr0 hcalc
    have hv : rdI (S.drop k, false) = (0, (S.drop k, true)) := rdI_none HC.out
    have HV := Lib.hid hv
    clear hv
    go_enter Tryz.func63, Tryz.ntmps63
    go_wp2_with (first | (go_at_call 93; refine (HN.out _).mono ?_; rintro e w1 ⟨rfl, rfl⟩))
    exact bodyPost_ret (v := .int .i64 0) (by simp [results, Tryz.results63, go_sem]) rfl ⟨by rw [HV.out], ⟨k, hk, by rw [HV.out], by rw [HV.out]; exact H.out.set2 true⟩, upd_set (Upd.refl _ _) 2 _⟩
  have hb1 := bs_get S m1 (by rw [bs_size]; exact hin1)
  have hsz1 : (m1 : Int) < ((bs S).size : Int) := by rw [bs_size]; omega
  have hdr1 : S.drop m1 = S[m1] :: S.drop (m1 + 1) := List.drop_eq_getElem_cons hin1
  obtain ⟨c1', hc1'⟩ : ∃ c1', S[m1] = c1' := ⟨_, rfl⟩
  rw [hc1'] at hb1 hdr1
  clear hc1'
  by_cases h45 : c1' = 45
  · subst h45
    have hneg : isNeg (S.drop m1) = true := by rw [hdr1]; rfl
    obtain ⟨m2, hm2⟩ : ∃ m2, m1 + 1 = m2 := ⟨_, rfl⟩
    have hmag : magOf (S.drop m1) = S.drop m2 := by unfold magOf; rw [if_pos hneg, hdr1, hm2]; rfl
    have a2 : IntKind.i64.wrap ((m1 : Int) + 1) = (m2 : Int) := by
      have e : (m1 : Int) + 1 = (m2 : Int) := by omega
      rw [e]; exact IntWalk.i64_in _ (by omega)
    have hmS : m2 ≤ S.length := by omega
    clear hdr1 hm1 hm2
    obtain ⟨nu, hnu⟩ : ∃ nu, refNum (S.drop m2) = nu := ⟨_, rfl⟩
    obtain ⟨n, u⟩ := nu
    have hN := HNUM.out m2 (by omega)
    rw [hnu] at hN
    dsimp only at hN
    have HN := Lib.hid hN
    have hcalc := rInt_calc hmag hneg hnu
    rw [← HD.out] at hcalc
    clear hN HNUM
    by_cases hn : 0 < n
    case neg =>
      have n0 : n = 0 := by omega
      have hn' : ¬ (0 : Int) < (n : Int) := by omega
      have a3 : IntKind.i64.wrap ((m2 : Int) + (n : Int)) = (m2 : Int) := by
        have e : (m2 : Int) + (n : Int) = (m2 : Int) := by omega
        rw [e]; exact IntWalk.i64_in _ (by omega)
      have HC := Lib.hid hcalc
      clear hcalc hnu n0
      have hv : rdI (S.drop k, false) = (0, (S.drop k, true)) := rdI_none (by rw [HC.out, if_neg (fun h => hn h.1)])
      have HV := Lib.hid hv
      clear hv
      go_enter Tryz.func63, Tryz.ntmps63
      go_wp2_with (first | (go_at_call 93; refine (HN.out _).mono ?_; rintro e w1 ⟨rfl, rfl⟩))
      exact bodyPost_ret (v := .int .i64 0) (by simp [results, Tryz.results63, go_sem]) rfl ⟨by rw [HV.out], ⟨k, hk, by rw [HV.out], by rw [HV.out]; exact H.out.set2 true⟩, upd_set (Upd.refl _ _) 2 _⟩
    obtain ⟨r, er, hu64, hnl, -⟩ := refNum_pos hnu hn
    have hlen := congrArg List.length er
    rw [List.length_append, List.length_drop, ← hnl] at hlen
    obtain ⟨e, he⟩ : ∃ e, m2 + n = e := ⟨_, rfl⟩
    have hdn : (S.drop m2).drop n = S.drop e := by rw [List.drop_drop, he]
    have hdn1 : (S.drop m2).drop (n + 1) = S.drop (e + 1) := by rw [List.drop_drop, ← he]; rfl
    rw [hdn, hdn1] at hcalc
    have a3 : IntKind.i64.wrap ((m2 : Int) + (n : Int)) = (e : Int) := by
      have e' : (m2 : Int) + (n : Int) = (e : Int) := by omega
      rw [e']; exact IntWalk.i64_in _ (by omega)
    have hn' : (0 : Int) < (n : Int) := by omega
    have a30 : (0 : Int) ≤ (e : Int) := by omega
    clear hdn hdn1 er hnu he hlen hnl
    by_cases hei : e < S.length
    case neg =>
      have hde : S.drop e = [] := List.drop_eq_nil_of_le (by omega)
      have e0 : ¬ (e : Int) < ((bs S).size : Int) := by rw [bs_size]; omega
      have HC := Lib.hid hcalc
      clear hcalc
      have hv : rdI (S.drop k, false) = (0, (S.drop k, true)) := rdI_none (by rw [HC.out, if_neg]; rintro ⟨-, h, -⟩; rw [hde] at h; cases h)
      have HV := Lib.hid hv
      clear hv
      go_enter Tryz.func63, Tryz.ntmps63
      go_wp2_with (first | (go_at_call 93; refine (HN.out _).mono ?_; rintro e w1 ⟨rfl, rfl⟩))
      exact bodyPost_ret (v := .int .i64 0) (by simp [results, Tryz.results63, go_sem]) rfl ⟨by rw [HV.out], ⟨k, hk, by rw [HV.out], by rw [HV.out]; exact H.out.set2 true⟩, upd_set (Upd.refl _ _) 2 _⟩
    have hbe := bs_get S e (by rw [bs_size]; exact hei)
    have hsze : (e : Int) < ((bs S).size : Int) := by rw [bs_size]; omega
    have hdre : S.drop e = S[e] :: S.drop (e + 1) := List.drop_eq_getElem_cons hei
    obtain ⟨ce, hce⟩ : ∃ ce, S[e] = ce := ⟨_, rfl⟩
    rw [hce] at hbe hdre
    clear hce
    have hhe : (S.drop e).head? = some ce := by rw [hdre]; rfl
    rw [hhe] at hcalc
    clear hdre hhe
    by_cases h101 : ce = 101
    case neg =>
      have e0 : ¬ (ce.toNat : Int) = 101 := fun e' => h101 (byte_ext (by have e48 : (101 : UInt8).toNat = 101 := rfl; omega))
      have HC := Lib.hid hcalc
      clear hcalc
      have hv : rdI (S.drop k, false) = (0, (S.drop k, true)) := rdI_none (by rw [HC.out, if_neg]; rintro ⟨-, h, -⟩; exact h101 (Option.some.inj h))
      have HV := Lib.hid hv
      clear hv
      go_enter Tryz.func63, Tryz.ntmps63
      go_wp2_with (first | (go_at_call 93; refine (HN.out _).mono ?_; rintro e w1 ⟨rfl, rfl⟩))
      exact bodyPost_ret (v := .int .i64 0) (by simp [results, Tryz.results63, go_sem]) rfl ⟨by rw [HV.out], ⟨k, hk, by rw [HV.out], by rw [HV.out]; exact H.out.set2 true⟩, upd_set (Upd.refl _ _) 2 _⟩
    subst h101
    obtain ⟨f, hf⟩ : ∃ f, e + 1 = f := ⟨_, rfl⟩
    rw [hf] at hcalc
    have a4 : IntKind.i64.wrap ((e : Int) + 1) = (f : Int) := by
      have e' : (e : Int) + 1 = (f : Int) := by omega
      rw [e']; exact IntWalk.i64_in _ (by omega)
    have hfS : f ≤ S.length := by omega
    have HC := Lib.hid hcalc
    clear hcalc hf
    by_cases hu0 : 0 < u
    case neg =>
      have g0 : ¬ (0 : Int) < (u : Int) := by omega
      have hv : rdI (S.drop k, false) = (0, (S.drop k, true)) := rdI_none (by rw [HC.out, if_neg]; rintro ⟨-, -, h | h⟩; exact absurd h.1 (by decide); exact hu0 h.2.1)
      have HV := Lib.hid hv
      clear hv
      go_enter Tryz.func63, Tryz.ntmps63
      go_wp2_with (first | (go_at_call 93; refine (HN.out _).mono ?_; rintro e w1 ⟨rfl, rfl⟩))
      exact bodyPost_ret (v := .int .i64 0) (by simp [results, Tryz.results63, go_sem]) rfl ⟨by rw [HV.out], ⟨k, hk, by rw [HV.out], by rw [HV.out]; exact H.out.set2 true⟩, upd_set (Upd.refl _ _) 2 _⟩
    by_cases hu63 : u ≤ 9223372036854775808
    · have g0 : (0 : Int) < (u : Int) := by omega
      have g1 : (u : Int) ≤ 9223372036854775808 := by omega
      obtain ⟨v, hv⟩ : ∃ v, u - 1 = v := ⟨_, rfl⟩
      have g2 : IntKind.u64.wrap ((u : Int) - 1) = (v : Int) := by
        have e' : (u : Int) - 1 = (v : Int) := by omega
        rw [e']; exact IntWalk.u64_in _ (by omega)
      have g3 : IntKind.i64.wrap (v : Int) = (v : Int) := IntWalk.i64_in _ (by omega)
      have g4 : IntKind.i64.wrap (-(v : Int)) = -(v : Int) := IntWalk.i64_in _ (by omega)
      have g5 : IntKind.i64.wrap (-(v : Int) - 1) = -(u : Int) := by
        have e' : -(v : Int) - 1 = -(u : Int) := by omega
        rw [e']; exact IntWalk.i64_in _ (by omega)
      clear hv
      have hvv : rdI (S.drop k, false) = (-(u : Int), (S.drop f, false)) := rdI_some (by rw [HC.out, if_pos ⟨hn, rfl, .inr ⟨rfl, hu0, hu63⟩⟩]; rfl)
      have HV := Lib.hid hvv
      clear hvv
      go_enter Tryz.func63, Tryz.ntmps63
      go_wp2_with (first | (go_at_call 93; refine (HN.out _).mono ?_; rintro e w1 ⟨rfl, rfl⟩))
      exact bodyPost_ret (v := .int .i64 (-(u : Int))) (by simp [results, Tryz.results63, go_sem]) rfl ⟨by rw [HV.out], ⟨f, hfS, by rw [HV.out], by rw [HV.out]; exact H.out.set1 f⟩, upd_set (Upd.refl _ _) 1 _⟩
    · have g0 : (0 : Int) < (u : Int) := by omega
      have g1 : ¬ (u : Int) ≤ 9223372036854775808 := by omega
      have hv : rdI (S.drop k, false) = (0, (S.drop k, true)) := rdI_none (by rw [HC.out, if_neg]; rintro ⟨-, -, h | h⟩; exact absurd h.1 (by decide); exact hu63 h.2.2)
      have HV := Lib.hid hv
      clear hv
      go_enter Tryz.func63, Tryz.ntmps63
      go_wp2_with (first | (go_at_call 93; refine (HN.out _).mono ?_; rintro e w1 ⟨rfl, rfl⟩))
      exact bodyPost_ret (v := .int .i64 0) (by simp [results, Tryz.results63, go_sem]) rfl ⟨by rw [HV.out], ⟨k, hk, by rw [HV.out], by rw [HV.out]; exact H.out.set2 true⟩, upd_set (Upd.refl _ _) 2 _⟩
  · have hneg : isNeg (S.drop m1) = false := by rw [hdr1]; simp [isNeg, h45]
    have hmag : magOf (S.drop m1) = S.drop m1 := by unfold magOf; rw [hneg]; rfl
    have e45 : ¬ (c1'.toNat : Int) = 45 := fun e => h45 (byte_ext (by have e48 : (45 : UInt8).toNat = 45 := rfl; omega))
    have hmS : m1 ≤ S.length := by omega
    clear hdr1 hm1
    obtain ⟨nu, hnu⟩ : ∃ nu, refNum (S.drop m1) = nu := ⟨_, rfl⟩
    obtain ⟨n, u⟩ := nu
    have hN := HNUM.out m1 (by omega)
    rw [hnu] at hN
    dsimp only at hN
    have HN := Lib.hid hN
    have hcalc := rInt_calc hmag hneg hnu
    rw [← HD.out] at hcalc
    clear hN HNUM
    by_cases hn : 0 < n
    case neg =>
      have n0 : n = 0 := by omega
      have hn' : ¬ (0 : Int) < (n : Int) := by omega
      have a3 : IntKind.i64.wrap ((m1 : Int) + (n : Int)) = (m1 : Int) := by
        have e : (m1 : Int) + (n : Int) = (m1 : Int) := by omega
        rw [e]; exact IntWalk.i64_in _ (by omega)
      have HC := Lib.hid hcalc
      clear hcalc hnu n0
      have hv : rdI (S.drop k, false) = (0, (S.drop k, true)) := rdI_none (by rw [HC.out, if_neg (fun h => hn h.1)])
      have HV := Lib.hid hv
      clear hv
      go_enter Tryz.func63, Tryz.ntmps63
      go_wp2_with (first | (go_at_call 93; refine (HN.out _).mono ?_; rintro e w1 ⟨rfl, rfl⟩))
      exact bodyPost_ret (v := .int .i64 0) (by simp [results, Tryz.results63, go_sem]) rfl ⟨by rw [HV.out], ⟨k, hk, by rw [HV.out], by rw [HV.out]; exact H.out.set2 true⟩, upd_set (Upd.refl _ _) 2 _⟩
    obtain ⟨r, er, hu64, hnl, -⟩ := refNum_pos hnu hn
    have hlen := congrArg List.length er
    rw [List.length_append, List.length_drop, ← hnl] at hlen
    obtain ⟨e, he⟩ : ∃ e, m1 + n = e := ⟨_, rfl⟩
    have hdn : (S.drop m1).drop n = S.drop e := by rw [List.drop_drop, he]
    have hdn1 : (S.drop m1).drop (n + 1) = S.drop (e + 1) := by rw [List.drop_drop, ← he]; rfl
    rw [hdn, hdn1] at hcalc
    have a3 : IntKind.i64.wrap ((m1 : Int) + (n : Int)) = (e : Int) := by
      have e' : (m1 : Int) + (n : Int) = (e : Int) := by omega
      rw [e']; exact IntWalk.i64_in _ (by omega)
    have hn' : (0 : Int) < (n : Int) := by omega
    have a30 : (0 : Int) ≤ (e : Int) := by omega
    clear hdn hdn1 er hnu he hlen hnl
    by_cases hei : e < S.length
    case neg =>
      have hde : S.drop e = [] := List.drop_eq_nil_of_le (by omega)
      have e0 : ¬ (e : Int) < ((bs S).size : Int) := by rw [bs_size]; omega
      have HC := Lib.hid hcalc
      clear hcalc
      have hv : rdI (S.drop k, false) = (0, (S.drop k, true)) := rdI_none (by rw [HC.out, if_neg]; rintro ⟨-, h, -⟩; rw [hde] at h; cases h)
      have HV := Lib.hid hv
      clear hv
      go_enter Tryz.func63, Tryz.ntmps63
      go_wp2_with (first | (go_at_call 93; refine (HN.out _).mono ?_; rintro e w1 ⟨rfl, rfl⟩))
      exact bodyPost_ret (v := .int .i64 0) (by simp [results, Tryz.results63, go_sem]) rfl ⟨by rw [HV.out], ⟨k, hk, by rw [HV.out], by rw [HV.out]; exact H.out.set2 true⟩, upd_set (Upd.refl _ _) 2 _⟩
    have hbe := bs_get S e (by rw [bs_size]; exact hei)
    have hsze : (e : Int) < ((bs S).size : Int) := by rw [bs_size]; omega
    have hdre : S.drop e = S[e] :: S.drop (e + 1) := List.drop_eq_getElem_cons hei
    obtain ⟨ce, hce⟩ : ∃ ce, S[e] = ce := ⟨_, rfl⟩
    rw [hce] at hbe hdre
    clear hce
    have hhe : (S.drop e).head? = some ce := by rw [hdre]; rfl
    rw [hhe] at hcalc
    clear hdre hhe
    by_cases h101 : ce = 101
    case neg =>
      have e0 : ¬ (ce.toNat : Int) = 101 := fun e' => h101 (byte_ext (by have e48 : (101 : UInt8).toNat = 101 := rfl; omega))
      have HC := Lib.hid hcalc
      clear hcalc
      have hv : rdI (S.drop k, false) = (0, (S.drop k, true)) := rdI_none (by rw [HC.out, if_neg]; rintro ⟨-, h, -⟩; exact h101 (Option.some.inj h))
      have HV := Lib.hid hv
      clear hv
      go_enter Tryz.func63, Tryz.ntmps63
      go_wp2_with (first | (go_at_call 93; refine (HN.out _).mono ?_; rintro e w1 ⟨rfl, rfl⟩))
      exact bodyPost_ret (v := .int .i64 0) (by simp [results, Tryz.results63, go_sem]) rfl ⟨by rw [HV.out], ⟨k, hk, by rw [HV.out], by rw [HV.out]; exact H.out.set2 true⟩, upd_set (Upd.refl _ _) 2 _⟩
    subst h101
    obtain ⟨f, hf⟩ : ∃ f, e + 1 = f := ⟨_, rfl⟩
    rw [hf] at hcalc
    have a4 : IntKind.i64.wrap ((e : Int) + 1) = (f : Int) := by
      have e' : (e : Int) + 1 = (f : Int) := by omega
      rw [e']; exact IntWalk.i64_in _ (by omega)
    have hfS : f ≤ S.length := by omega
    have HC := Lib.hid hcalc
    clear hcalc hf
    by_cases hu63 : u < 9223372036854775808
    · have g2 : IntKind.i64.wrap (u : Int) = (u : Int) := IntWalk.i64_in _ (by omega)
      have hv : rdI (S.drop k, false) = ((u : Int), (S.drop f, false)) := rdI_some (by rw [HC.out, if_pos ⟨hn, rfl, .inl ⟨rfl, hu63⟩⟩]; rfl)
      have HV := Lib.hid hv
      clear hv
      have G1 := Lib.hid hu63
      clear hu63 hu64
      go_enter Tryz.func63, Tryz.ntmps63
      go_wp2_with fail
      refine (HN.out _).mono ?_
      rintro e w1 ⟨rfl, rfl⟩
      go_upto_region 11 with fail
      obtain ⟨B, hB⟩ : ∃ B : Int, (9223372036854775808 : Int) = B := ⟨_, rfl⟩
      have g1 : (u : Int) < B := by have := G1.out; omega
      rw [hB]
      clear hB
      go_wp2
      exact bodyPost_ret (v := .int .i64 ((u : Int))) (by simp [results, Tryz.results63, go_sem]) rfl ⟨by rw [HV.out], ⟨f, hfS, by rw [HV.out], by rw [HV.out]; exact H.out.set1 f⟩, upd_set (Upd.refl _ _) 1 _⟩
    · skip
      have hv : rdI (S.drop k, false) = (0, (S.drop k, true)) := rdI_none (by rw [HC.out, if_neg]; rintro ⟨-, -, h | h⟩; exact hu63 h.2; exact absurd h.1 (by decide))
      have HV := Lib.hid hv
      clear hv
      have G1 := Lib.hid hu63
      clear hu63 hu64
      go_enter Tryz.func63, Tryz.ntmps63
      go_wp2_with fail
      refine (HN.out _).mono ?_
      rintro e w1 ⟨rfl, rfl⟩
      go_upto_region 11 with fail
      obtain ⟨B, hB⟩ : ∃ B : Int, (9223372036854775808 : Int) = B := ⟨_, rfl⟩
      have g1 : ¬ (u : Int) < B := by have := G1.out; omega
      rw [hB]
      clear hB
      go_wp2
      exact bodyPost_ret (v := .int .i64 0) (by simp [results, Tryz.results63, go_sem]) rfl ⟨by rw [HV.out], ⟨k, hk, by rw [HV.out], by rw [HV.out]; exact H.out.set2 true⟩, upd_set (Upd.refl _ _) 2 _⟩
end Go.Proofs.YtjkobbmdemooaaaGreatDoor
