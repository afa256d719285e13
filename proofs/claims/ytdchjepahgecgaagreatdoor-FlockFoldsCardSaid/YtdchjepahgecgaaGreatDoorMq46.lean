/- The walks of the reference's reader. Its Int is printed by gen_rrint.py. -/
/- The walks of the reference's reader: sign, Open, Close, More, Done. -/
/- The walk of the reference's Reader.Text. -/
/- The walk of the reference's Reader.Text. -/
import Derived.Test.YtdchjepahgecgaaGreatDoorMq45
import Derived.Test.YtdchjepahgecgaaGreatDoorMq10
import Derived.Test.YtdchjepahgecgaaGreatDoorMq6
import Derived.Deep.QuietTactic
namespace Go.Proofs.YtdchjepahgecgaaGreatDoor
open Go.RowKit

/-- The reference's reader in memory: all its bytes, its place, whether it is wrong. -/
def RfAt (w : World) (p : Nat) (S : List UInt8) (k : Nat) (b : Bool) : Prop := w.heap[p]? = some (.cells #[.string (bs S), .int .i64 (k : Int), .bool b] 105 (0, 0))

theorem RfAt.cell0 {w : World} {p : Nat} {S : List UInt8} {k : Nat} {b : Bool} (h : RfAt w p S k b) : w.cell? ⟨p, 0, none⟩ = some (.string (bs S)) := by rw [cell_of_row w p 0 _ _ _ h]; rfl
theorem RfAt.cell1 {w : World} {p : Nat} {S : List UInt8} {k : Nat} {b : Bool} (h : RfAt w p S k b) : w.cell? ⟨p, 1, none⟩ = some (.int .i64 (k : Int)) := by rw [cell_of_row w p 1 _ _ _ h]; rfl
theorem RfAt.cell2 {w : World} {p : Nat} {S : List UInt8} {k : Nat} {b : Bool} (h : RfAt w p S k b) : w.cell? ⟨p, 2, none⟩ = some (.bool b) := by rw [cell_of_row w p 2 _ _ _ h]; rfl
theorem RfAt.free {w : World} {p : Nat} {S : List UInt8} {k : Nat} {b : Bool} (h : RfAt w p S k b) (o : Nat) : w.frozen? ⟨p, o, none⟩ = false := by simp [World.frozen?, show w.heap[p]? = _ from h]
theorem RfAt.lt {w : World} {p : Nat} {S : List UInt8} {k : Nat} {b : Bool} (h : RfAt w p S k b) : p < w.heap.size := (Array.getElem?_eq_some_iff.1 h).1
theorem RfAt.set1 {w : World} {p : Nat} {S : List UInt8} {k : Nat} {b : Bool} (h : RfAt w p S k b) (k' : Nat) : RfAt (w.setCell ⟨p, 1, none⟩ (.int .i64 (k' : Int))) p S k' b := by
  unfold RfAt at h ⊢
  rw [setCell_same h]; rfl
theorem RfAt.set2 {w : World} {p : Nat} {S : List UInt8} {k : Nat} {b : Bool} (h : RfAt w p S k b) (b' : Bool) : RfAt (w.setCell ⟨p, 2, none⟩ (.bool b')) p S k b' := by
  unfold RfAt at h ⊢
  rw [setCell_same h]; rfl
theorem RfAt.drew {w : World} {p : Nat} {S : List UInt8} {k : Nat} {b : Bool} (h : RfAt w p S k b) : RfAt w.drew p S k b := h

/-- The reader's state, as the plain readers have it. -/
def RfSt (w : World) (p : Nat) (S : List UInt8) (st : RS) : Prop := ∃ k, k ≤ S.length ∧ st.1 = S.drop k ∧ RfAt w p S k st.2

theorem rInt_calc {t M : List UInt8} {ng : Bool} {n u : Nat} (h1 : magOf t = M) (h2 : isNeg t = ng) (h3 : refNum M = (n, u)) :
    rInt (105 :: t) = if 0 < n ∧ (M.drop n).head? = some 101 ∧ (ng = false ∧ u < 9223372036854775808 ∨ ng = true ∧ 0 < u ∧ u ≤ 9223372036854775808) then
      some (if ng = true then -(u : Int) else (u : Int), M.drop (n + 1)) else none := by
  unfold rInt
  rw [List.tail_cons, h1, h2, h3]
  simp

theorem rInt_head {s : List UInt8} (h : s.head? ≠ some 105) : rInt s = none := by
  unfold rInt
  rw [if_neg]
  exact fun hh => h hh.1

theorem rdI_none {s : List UInt8} (h : rInt s = none) : rdI (s, false) = (0, (s, true)) := by
  rw [rInt_eq] at h
  simp [rdI, h]
theorem rdI_some {s : List UInt8} {n : Int} {r : List UInt8} (h : rInt s = some (n, r)) : rdI (s, false) = (n, (r, false)) := by
  rw [rInt_eq] at h
  simp [rdI, h]

def RfInt (w : World) (p : Nat) (S : List UInt8) (r : Int × RS) (e : Ending) (w' : World) : Prop :=
  e = .returned (.int .i64 r.1) ∧ RfSt w' p S r.2 ∧ Upd (fun k => k = p) w w'

set_option maxRecDepth 100000 in
set_option maxHeartbeats 4000000 in
theorem RrInt_go {w : World} {p : Nat} {S : List UInt8} {k : Nat} (h : RfAt w p S k false) (hk : k ≤ S.length) (hs : S.length ≤ 140737488355328) :
    Calls Tryz.prog 66 #[.pointer (some ⟨p, 0, none⟩)] w (RfInt w p S (rdI (S.drop k, false))) := by
  have H := Lib.hid h
  have c0 := h.cell0
  have c1 := h.cell1
  have c2 := h.cell2
  have f1 := h.free 1
  have f2 := h.free 2
  have hz := bs_size S
  clear h
  have num := fun (m : Nat) (hm : m ≤ S.length) (w' : World) => number_any S m hm hs w'
  have HNUM := Lib.hid num
  clear num
  have hk0 : (0 : Int) ≤ (k : Int) := by omega
  by_cases hin : k < S.length
  case neg =>
    have hd : S.drop k = [] := List.drop_eq_nil_of_le (by omega)
    have hv : rdI (S.drop k, false) = (0, (S.drop k, true)) := rdI_none (rInt_head (by rw [hd]; simp))
    have e0 : ¬ (k : Int) < ((bs S).size : Int) := by rw [bs_size]; omega
    have HV := Lib.hid hv
    clear hv hd
    go_enter Tryz.func66, Tryz.ntmps66
    go_wp2
    exact bodyPost_ret (v := .int .i64 0) (by simp [results, Tryz.results66, go_sem]) rfl ⟨by rw [HV.out], ⟨k, hk, by rw [HV.out], by rw [HV.out]; exact H.out.set2 true⟩, upd_set (Upd.refl _ _) 2 _⟩
  have hb := bs_get S k (by rw [bs_size]; exact hin)
  have hsz : (k : Int) < ((bs S).size : Int) := by rw [bs_size]; omega
  have hdr : S.drop k = S[k] :: S.drop (k + 1) := List.drop_eq_getElem_cons hin
  obtain ⟨c, hc⟩ : ∃ c, S[k] = c := ⟨_, rfl⟩
  rw [hc] at hb hdr
  clear hc
  by_cases h105 : c = 105
  case neg =>
    have hv : rdI (S.drop k, false) = (0, (S.drop k, true)) := rdI_none (rInt_head (by rw [hdr]; simpa using h105))
    have e0 : ¬ (c.toNat : Int) = 105 := fun e => h105 (byte_ext (by have e48 : (105 : UInt8).toNat = 105 := rfl; omega))
    have HV := Lib.hid hv
    clear hv hdr
    go_enter Tryz.func66, Tryz.ntmps66
    go_wp2
    exact bodyPost_ret (v := .int .i64 0) (by simp [results, Tryz.results66, go_sem]) rfl ⟨by rw [HV.out], ⟨k, hk, by rw [HV.out], by rw [HV.out]; exact H.out.set2 true⟩, upd_set (Upd.refl _ _) 2 _⟩
  subst h105
  obtain ⟨m1, hm1⟩ : ∃ m1, k + 1 = m1 := ⟨_, rfl⟩
  rw [hm1] at hdr
  have HD := Lib.hid hdr
  have a1 : IntKind.i64.wrap ((k : Int) + 1) = (m1 : Int) := by
    have e : (k : Int) + 1 = (m1 : Int) := by omega
    rw [e]; exact IntWalk.i64_in _ (by omega)
  have a10 : (0 : Int) ≤ (m1 : Int) := by omega
  clear hdr
  by_cases hin1 : m1 < S.length
  case neg =>
    have hd1 : S.drop m1 = [] := List.drop_eq_nil_of_le (by omega)
    have hN := HNUM.out m1 (by omega)
    have hr0 : refNum (S.drop m1) = (0, 0) := by rw [hd1]; rfl
    rw [hr0] at hN
    dsimp only at hN
    have HN := Lib.hid hN
    have hcalc := rInt_calc (t := S.drop m1) (M := S.drop m1) (ng := false) (by rw [hd1]; rfl) (by rw [hd1]; rfl) hr0
    rw [← HD.out, if_neg (fun h => absurd h.1 (by decide))] at hcalc
    have e0 : ¬ (m1 : Int) < ((bs S).size : Int) := by rw [bs_size]; omega
    have a3 : IntKind.i64.wrap (m1 : Int) = (m1 : Int) := IntWalk.i64_in _ (by omega)
    have HC := Lib.hid hcalc
    clear hN HNUM hd1 hr0 hcalc
    have hv : rdI (S.drop k, false) = (0, (S.drop k, true)) := rdI_none HC.out
    have HV := Lib.hid hv
    clear hv
    go_enter Tryz.func66, Tryz.ntmps66
    go_wp2_with (first | (go_at_call 95; refine (HN.out _).mono ?_; rintro e w1 ⟨rfl, rfl⟩))
    exact bodyPost_ret (v := .int .i64 0) (by simp [results, Tryz.results66, go_sem]) rfl ⟨by rw [HV.out], ⟨k, hk, by rw [HV.out], by rw [HV.out]; exact H.out.set2 true⟩, upd_set (Upd.refl _ _) 2 _⟩
  have hb1 := bs_get S m1 (by rw [bs_size]; exact hin1)
  have hsz1 : (m1 : Int) < ((bs S).size : Int) := by rw [bs_size]; omega
  have hdr1 : S.drop m1 = S[m1] :: S.drop (m1 + 1) := List.drop_eq_getElem_cons hin1
  obtain ⟨c1', hc1'⟩ : ∃ c1', S[m1] = c1' := ⟨_, rfl⟩
  rw [hc1'] at hb1 hdr1
  clear hc1'
  by_cases h45 : c1' = 45
  · subst h45
    have hneg : isNeg (S.drop m1) = true := by rw [hdr1]; rfl
    obtain ⟨m2, hm2⟩ : ∃ m2, m1 + 1 = m2 := ⟨_, rfl⟩
    have hmag : magOf (S.drop m1) = S.drop m2 := by unfold magOf; rw [if_pos hneg, hdr1, hm2]; rfl
    have a2 : IntKind.i64.wrap ((m1 : Int) + 1) = (m2 : Int) := by
      have e : (m1 : Int) + 1 = (m2 : Int) := by omega
      rw [e]; exact IntWalk.i64_in _ (by omega)
    have hmS : m2 ≤ S.length := by omega
    clear hdr1 hm1 hm2
    obtain ⟨nu, hnu⟩ : ∃ nu, refNum (S.drop m2) = nu := ⟨_, rfl⟩
    obtain ⟨n, u⟩ := nu
    have hN := HNUM.out m2 (by omega)
    rw [hnu] at hN
    dsimp only at hN
    have HN := Lib.hid hN
    have hcalc := rInt_calc hmag hneg hnu
    rw [← HD.out] at hcalc
    clear hN HNUM
    by_cases hn : 0 < n
    case neg =>
      have n0 : n = 0 := by omega
      have hn' : ¬ (0 : Int) < (n : Int) := by omega
      have a3 : IntKind.i64.wrap ((m2 : Int) + (n : Int)) = (m2 : Int) := by
        have e : (m2 : Int) + (n : Int) = (m2 : Int) := by omega
        rw [e]; exact IntWalk.i64_in _ (by omega)
      have HC := Lib.hid hcalc
      clear hcalc hnu n0
      have hv : rdI (S.drop k, false) = (0, (S.drop k, true)) := rdI_none (by rw [HC.out, if_neg (fun h => hn h.1)])
      have HV := Lib.hid hv
      clear hv
      go_enter Tryz.func66, Tryz.ntmps66
      go_wp2_with (first | (go_at_call 95; refine (HN.out _).mono ?_; rintro e w1 ⟨rfl, rfl⟩))
      exact bodyPost_ret (v := .int .i64 0) (by simp [results, Tryz.results66, go_sem]) rfl ⟨by rw [HV.out], ⟨k, hk, by rw [HV.out], by rw [HV.out]; exact H.out.set2 true⟩, upd_set (Upd.refl _ _) 2 _⟩
    obtain ⟨r, er, hu64, hnl, -⟩ := refNum_pos hnu hn
    have hlen := congrArg List.length er
    rw [List.length_append, List.length_drop, ← hnl] at hlen
    obtain ⟨e, he⟩ : ∃ e, m2 + n = e := ⟨_, rfl⟩
    have hdn : (S.drop m2).drop n = S.drop e := by rw [List.drop_drop, he]
    have hdn1 : (S.drop m2).drop (n + 1) = S.drop (e + 1) := by rw [List.drop_drop, ← he]; rfl
    rw [hdn, hdn1] at hcalc
    have a3 : IntKind.i64.wrap ((m2 : Int) + (n : Int)) = (e : Int) := by
      have e' : (m2 : Int) + (n : Int) = (e : Int) := by omega
      rw [e']; exact IntWalk.i64_in _ (by omega)
    have hn' : (0 : Int) < (n : Int) := by omega
    have a30 : (0 : Int) ≤ (e : Int) := by omega
    clear hdn hdn1 er hnu he hlen hnl
    by_cases hei : e < S.length
    case neg =>
      have hde : S.drop e = [] := List.drop_eq_nil_of_le (by omega)
      have e0 : ¬ (e : Int) < ((bs S).size : Int) := by rw [bs_size]; omega
      have HC := Lib.hid hcalc
      clear hcalc
      have hv : rdI (S.drop k, false) = (0, (S.drop k, true)) := rdI_none (by rw [HC.out, if_neg]; rintro ⟨-, h, -⟩; rw [hde] at h; cases h)
      have HV := Lib.hid hv
      clear hv
      go_enter Tryz.func66, Tryz.ntmps66
      go_wp2_with (first | (go_at_call 95; refine (HN.out _).mono ?_; rintro e w1 ⟨rfl, rfl⟩))
      exact bodyPost_ret (v := .int .i64 0) (by simp [results, Tryz.results66, go_sem]) rfl ⟨by rw [HV.out], ⟨k, hk, by rw [HV.out], by rw [HV.out]; exact H.out.set2 true⟩, upd_set (Upd.refl _ _) 2 _⟩
    have hbe := bs_get S e (by rw [bs_size]; exact hei)
    have hsze : (e : Int) < ((bs S).size : Int) := by rw [bs_size]; omega
    have hdre : S.drop e = S[e] :: S.drop (e + 1) := List.drop_eq_getElem_cons hei
    obtain ⟨ce, hce⟩ : ∃ ce, S[e] = ce := ⟨_, rfl⟩
    rw [hce] at hbe hdre
    clear hce
    have hhe : (S.drop e).head? = some ce := by rw [hdre]; rfl
    rw [hhe] at hcalc
    clear hdre hhe
    by_cases h101 : ce = 101
    case neg =>
      have e0 : ¬ (ce.toNat : Int) = 101 := fun e' => h101 (byte_ext (by have e48 : (101 : UInt8).toNat = 101 := rfl; omega))
      have HC := Lib.hid hcalc
      clear hcalc
      have hv : rdI (S.drop k, false) = (0, (S.drop k, true)) := rdI_none (by rw [HC.out, if_neg]; rintro ⟨-, h, -⟩; exact h101 (Option.some.inj h))
      have HV := Lib.hid hv
      clear hv
      go_enter Tryz.func66, Tryz.ntmps66
      go_wp2_with (first | (go_at_call 95; refine (HN.out _).mono ?_; rintro e w1 ⟨rfl, rfl⟩))
      exact bodyPost_ret (v := .int .i64 0) (by simp [results, Tryz.results66, go_sem]) rfl ⟨by rw [HV.out], ⟨k, hk, by rw [HV.out], by rw [HV.out]; exact H.out.set2 true⟩, upd_set (Upd.refl _ _) 2 _⟩
    subst h101
    obtain ⟨f, hf⟩ : ∃ f, e + 1 = f := ⟨_, rfl⟩
    rw [hf] at hcalc
    have a4 : IntKind.i64.wrap ((e : Int) + 1) = (f : Int) := by
      have e' : (e : Int) + 1 = (f : Int) := by omega
      rw [e']; exact IntWalk.i64_in _ (by omega)
    have hfS : f ≤ S.length := by omega
    have HC := Lib.hid hcalc
    clear hcalc hf
    by_cases hu0 : 0 < u
    case neg =>
      have g0 : ¬ (0 : Int) < (u : Int) := by omega
      have hv : rdI (S.drop k, false) = (0, (S.drop k, true)) := rdI_none (by rw [HC.out, if_neg]; rintro ⟨-, -, h | h⟩; exact absurd h.1 (by decide); exact hu0 h.2.1)
      have HV := Lib.hid hv
      clear hv
      go_enter Tryz.func66, Tryz.ntmps66
      go_wp2_with (first | (go_at_call 95; refine (HN.out _).mono ?_; rintro e w1 ⟨rfl, rfl⟩))
      exact bodyPost_ret (v := .int .i64 0) (by simp [results, Tryz.results66, go_sem]) rfl ⟨by rw [HV.out], ⟨k, hk, by rw [HV.out], by rw [HV.out]; exact H.out.set2 true⟩, upd_set (Upd.refl _ _) 2 _⟩
    by_cases hu63 : u ≤ 9223372036854775808
    · have g0 : (0 : Int) < (u : Int) := by omega
      have g1 : (u : Int) ≤ 9223372036854775808 := by omega
      obtain ⟨v, hv⟩ : ∃ v, u - 1 = v := ⟨_, rfl⟩
      have g2 : IntKind.u64.wrap ((u : Int) - 1) = (v : Int) := by
        have e' : (u : Int) - 1 = (v : Int) := by omega
        rw [e']; exact IntWalk.u64_in _ (by omega)
      have g3 : IntKind.i64.wrap (v : Int) = (v : Int) := IntWalk.i64_in _ (by omega)
      have g4 : IntKind.i64.wrap (-(v : Int)) = -(v : Int) := IntWalk.i64_in _ (by omega)
      have g5 : IntKind.i64.wrap (-(v : Int) - 1) = -(u : Int) := by
        have e' : -(v : Int) - 1 = -(u : Int) := by omega
        rw [e']; exact IntWalk.i64_in _ (by omega)
      clear hv
      have hvv : rdI (S.drop k, false) = (-(u : Int), (S.drop f, false)) := rdI_some (by rw [HC.out, if_pos ⟨hn, rfl, .inr ⟨rfl, hu0, hu63⟩⟩]; rfl)
      have HV := Lib.hid hvv
      clear hvv
      go_enter Tryz.func66, Tryz.ntmps66
      go_wp2_with (first | (go_at_call 95; refine (HN.out _).mono ?_; rintro e w1 ⟨rfl, rfl⟩))
      exact bodyPost_ret (v := .int .i64 (-(u : Int))) (by simp [results, Tryz.results66, go_sem]) rfl ⟨by rw [HV.out], ⟨f, hfS, by rw [HV.out], by rw [HV.out]; exact H.out.set1 f⟩, upd_set (Upd.refl _ _) 1 _⟩
    · have g0 : (0 : Int) < (u : Int) := by omega
      have g1 : ¬ (u : Int) ≤ 9223372036854775808 := by omega
      have hv : rdI (S.drop k, false) = (0, (S.drop k, true)) := rdI_none (by rw [HC.out, if_neg]; rintro ⟨-, -, h | h⟩; exact absurd h.1 (by decide); exact hu63 h.2.2)
      have HV := Lib.hid hv
      clear hv
      go_enter Tryz.func66, Tryz.ntmps66
      go_wp2_with (first | (go_at_call 95; refine (HN.out _).mono ?_; rintro e w1 ⟨rfl, rfl⟩))
      exact bodyPost_ret (v := .int .i64 0) (by simp [results, Tryz.results66, go_sem]) rfl ⟨by rw [HV.out], ⟨k, hk, by rw [HV.out], by rw [HV.out]; exact H.out.set2 true⟩, upd_set (Upd.refl _ _) 2 _⟩
  · have hneg : isNeg (S.drop m1) = false := by rw [hdr1]; simp [isNeg, h45]
    have hmag : magOf (S.drop m1) = S.drop m1 := by unfold magOf; rw [hneg]; rfl
    have e45 : ¬ (c1'.toNat : Int) = 45 := fun e => h45 (byte_ext (by have e48 : (45 : UInt8).toNat = 45 := rfl; omega))
    have hmS : m1 ≤ S.length := by omega
    clear hdr1 hm1
    obtain ⟨nu, hnu⟩ : ∃ nu, refNum (S.drop m1) = nu := ⟨_, rfl⟩
    obtain ⟨n, u⟩ := nu
    have hN := HNUM.out m1 (by omega)
    rw [hnu] at hN
    dsimp only at hN
    have HN := Lib.hid hN
    have hcalc := rInt_calc hmag hneg hnu
    rw [← HD.out] at hcalc
    clear hN HNUM
    by_cases hn : 0 < n
    case neg =>
      have n0 : n = 0 := by omega
      have hn' : ¬ (0 : Int) < (n : Int) := by omega
      have a3 : IntKind.i64.wrap ((m1 : Int) + (n : Int)) = (m1 : Int) := by
        have e : (m1 : Int) + (n : Int) = (m1 : Int) := by omega
        rw [e]; exact IntWalk.i64_in _ (by omega)
      have HC := Lib.hid hcalc
      clear hcalc hnu n0
      have hv : rdI (S.drop k, false) = (0, (S.drop k, true)) := rdI_none (by rw [HC.out, if_neg (fun h => hn h.1)])
      have HV := Lib.hid hv
      clear hv
      go_enter Tryz.func66, Tryz.ntmps66
      go_wp2_with (first | (go_at_call 95; refine (HN.out _).mono ?_; rintro e w1 ⟨rfl, rfl⟩))
      exact bodyPost_ret (v := .int .i64 0) (by simp [results, Tryz.results66, go_sem]) rfl ⟨by rw [HV.out], ⟨k, hk, by rw [HV.out], by rw [HV.out]; exact H.out.set2 true⟩, upd_set (Upd.refl _ _) 2 _⟩
    obtain ⟨r, er, hu64, hnl, -⟩ := refNum_pos hnu hn
    have hlen := congrArg List.length er
    rw [List.length_append, List.length_drop, ← hnl] at hlen
    obtain ⟨e, he⟩ : ∃ e, m1 + n = e := ⟨_, rfl⟩
    have hdn : (S.drop m1).drop n = S.drop e := by rw [List.drop_drop, he]
    have hdn1 : (S.drop m1).drop (n + 1) = S.drop (e + 1) := by rw [List.drop_drop, ← he]; rfl
    rw [hdn, hdn1] at hcalc
    have a3 : IntKind.i64.wrap ((m1 : Int) + (n : Int)) = (e : Int) := by
      have e' : (m1 : Int) + (n : Int) = (e : Int) := by omega
      rw [e']; exact IntWalk.i64_in _ (by omega)
    have hn' : (0 : Int) < (n : Int) := by omega
    have a30 : (0 : Int) ≤ (e : Int) := by omega
    clear hdn hdn1 er hnu he hlen hnl
    by_cases hei : e < S.length
    case neg =>
      have hde : S.drop e = [] := List.drop_eq_nil_of_le (by omega)
      have e0 : ¬ (e : Int) < ((bs S).size : Int) := by rw [bs_size]; omega
      have HC := Lib.hid hcalc
      clear hcalc
      have hv : rdI (S.drop k, false) = (0, (S.drop k, true)) := rdI_none (by rw [HC.out, if_neg]; rintro ⟨-, h, -⟩; rw [hde] at h; cases h)
      have HV := Lib.hid hv
      clear hv
      go_enter Tryz.func66, Tryz.ntmps66
      go_wp2_with (first | (go_at_call 95; refine (HN.out _).mono ?_; rintro e w1 ⟨rfl, rfl⟩))
      exact bodyPost_ret (v := .int .i64 0) (by simp [results, Tryz.results66, go_sem]) rfl ⟨by rw [HV.out], ⟨k, hk, by rw [HV.out], by rw [HV.out]; exact H.out.set2 true⟩, upd_set (Upd.refl _ _) 2 _⟩
    have hbe := bs_get S e (by rw [bs_size]; exact hei)
    have hsze : (e : Int) < ((bs S).size : Int) := by rw [bs_size]; omega
    have hdre : S.drop e = S[e] :: S.drop (e + 1) := List.drop_eq_getElem_cons hei
    obtain ⟨ce, hce⟩ : ∃ ce, S[e] = ce := ⟨_, rfl⟩
    rw [hce] at hbe hdre
    clear hce
    have hhe : (S.drop e).head? = some ce := by rw [hdre]; rfl
    rw [hhe] at hcalc
    clear hdre hhe
    by_cases h101 : ce = 101
    case neg =>
      have e0 : ¬ (ce.toNat : Int) = 101 := fun e' => h101 (byte_ext (by have e48 : (101 : UInt8).toNat = 101 := rfl; omega))
      have HC := Lib.hid hcalc
      clear hcalc
      have hv : rdI (S.drop k, false) = (0, (S.drop k, true)) := rdI_none (by rw [HC.out, if_neg]; rintro ⟨-, h, -⟩; exact h101 (Option.some.inj h))
      have HV := Lib.hid hv
      clear hv
      go_enter Tryz.func66, Tryz.ntmps66
      go_wp2_with (first | (go_at_call 95; refine (HN.out _).mono ?_; rintro e w1 ⟨rfl, rfl⟩))
      exact bodyPost_ret (v := .int .i64 0) (by simp [results, Tryz.results66, go_sem]) rfl ⟨by rw [HV.out], ⟨k, hk, by rw [HV.out], by rw [HV.out]; exact H.out.set2 true⟩, upd_set (Upd.refl _ _) 2 _⟩
    subst h101
    obtain ⟨f, hf⟩ : ∃ f, e + 1 = f := ⟨_, rfl⟩
    rw [hf] at hcalc
    have a4 : IntKind.i64.wrap ((e : Int) + 1) = (f : Int) := by
      have e' : (e : Int) + 1 = (f : Int) := by omega
      rw [e']; exact IntWalk.i64_in _ (by omega)
    have hfS : f ≤ S.length := by omega
    have HC := Lib.hid hcalc
    clear hcalc hf
    by_cases hu63 : u < 9223372036854775808
    · have g2 : IntKind.i64.wrap (u : Int) = (u : Int) := IntWalk.i64_in _ (by omega)
      have hv : rdI (S.drop k, false) = ((u : Int), (S.drop f, false)) := rdI_some (by rw [HC.out, if_pos ⟨hn, rfl, .inl ⟨rfl, hu63⟩⟩]; rfl)
      have HV := Lib.hid hv
      clear hv
      have G1 := Lib.hid hu63
      clear hu63 hu64
      go_enter Tryz.func66, Tryz.ntmps66
      go_wp2_with fail
      refine (HN.out _).mono ?_
      rintro e w1 ⟨rfl, rfl⟩
      go_upto_region 11 with fail
      obtain ⟨B, hB⟩ : ∃ B : Int, (9223372036854775808 : Int) = B := ⟨_, rfl⟩
      have g1 : (u : Int) < B := by have := G1.out; omega
      rw [hB]
      clear hB
      go_wp2
      exact bodyPost_ret (v := .int .i64 ((u : Int))) (by simp [results, Tryz.results66, go_sem]) rfl ⟨by rw [HV.out], ⟨f, hfS, by rw [HV.out], by rw [HV.out]; exact H.out.set1 f⟩, upd_set (Upd.refl _ _) 1 _⟩
    · skip
      have hv : rdI (S.drop k, false) = (0, (S.drop k, true)) := rdI_none (by rw [HC.out, if_neg]; rintro ⟨-, -, h | h⟩; exact hu63 h.2; exact absurd h.1 (by decide))
      have HV := Lib.hid hv
      clear hv
      have G1 := Lib.hid hu63
      clear hu63 hu64
      go_enter Tryz.func66, Tryz.ntmps66
      go_wp2_with fail
      refine (HN.out _).mono ?_
      rintro e w1 ⟨rfl, rfl⟩
      go_upto_region 11 with fail
      obtain ⟨B, hB⟩ : ∃ B : Int, (9223372036854775808 : Int) = B := ⟨_, rfl⟩
      have g1 : ¬ (u : Int) < B := by have := G1.out; omega
      rw [hB]
      clear hB
      go_wp2
      exact bodyPost_ret (v := .int .i64 0) (by simp [results, Tryz.results66, go_sem]) rfl ⟨by rw [HV.out], ⟨k, hk, by rw [HV.out], by rw [HV.out]; exact H.out.set2 true⟩, upd_set (Upd.refl _ _) 2 _⟩
end Go.Proofs.YtdchjepahgecgaaGreatDoor
namespace Go.Proofs.YtdchjepahgecgaaGreatDoor
open Go.RowKit

theorem rdI_st {w : World} {p : Nat} {S : List UInt8} {st : RS} (h : RfSt w p S st) (hs : S.length ≤ 140737488355328) :
    Calls Tryz.prog 66 #[.pointer (some ⟨p, 0, none⟩)] w (RfInt w p S (rdI st)) := by
  obtain ⟨k, hk, e, hA⟩ := h
  obtain ⟨l, b⟩ := st
  have e : l = S.drop k := e
  subst e
  cases b
  · exact RrInt_go hA hk hs
  · have c2 := hA.cell2
    rw [rdI_bad rfl]
    have H := Lib.hid hA
    clear hA
    go_enter Tryz.func66, Tryz.ntmps66
    go_wp2
    exact bodyPost_ret (v := .int .i64 0) (by simp [results, Tryz.results66, go_sem]) rfl ⟨rfl, ⟨k, hk, rfl, H.out⟩, Upd.refl _ _⟩

theorem RrSign_any {w : World} {p : Nat} {S : List UInt8} {st : RS} (h : RfSt w p S st) (hs : S.length ≤ 140737488355328) (c : UInt8) :
    Calls Tryz.prog 94 #[.pointer (some ⟨p, 0, none⟩), .int .u8 (c.toNat : Int)] w fun e w' => e = .returned (.tuple #[]) ∧ RfSt w' p S (rdS c st) ∧ Upd (fun k => k = p) w w' := by
  obtain ⟨k, hk, e, hA⟩ := h
  obtain ⟨l, b⟩ := st
  have e : l = S.drop k := e
  subst e
  have H := Lib.hid hA
  have c0 := hA.cell0
  have c1 := hA.cell1
  have c2 := hA.cell2
  have f1 := hA.free 1
  have f2 := hA.free 2
  have hz := bs_size S
  have hk0 : (0 : Int) ≤ (k : Int) := by omega
  clear hA
  cases b
  · by_cases hin : k < S.length
    · have hb := bs_get S k (by rw [bs_size]; exact hin)
      have hsz : (k : Int) < ((bs S).size : Int) := by rw [bs_size]; omega
      have hdr : S.drop k = S[k] :: S.drop (k + 1) := List.drop_eq_getElem_cons hin
      obtain ⟨a, ha⟩ : ∃ a, S[k] = a := ⟨_, rfl⟩
      rw [ha] at hb hdr
      clear ha
      have hw : IntKind.i64.wrap ((k : Int) + 1) = (((k + 1 : Nat) : Nat) : Int) := by
        have e : (k : Int) + 1 = ((k + 1 : Nat) : Int) := by omega
        rw [e]; exact IntWalk.i64_in _ (by omega)
      obtain ⟨m, hm⟩ : ∃ m, k + 1 = m := ⟨_, rfl⟩
      rw [hm] at hw hdr
      have hmS : m ≤ S.length := by omega
      clear hm
      by_cases hac : a = c
      · subst hac
        have hv : rdS a (S.drop k, false) = (S.drop m, false) := by simp [rdS, hdr]
        have HV := Lib.hid hv
        clear hv hdr
        go_enter Tryz.func94, Tryz.ntmps94
        go_wp2
        go_quiet (fail)
        go_wp2
        first | go_end0 | (refine bodyPost_ret (results_none rfl _ _ _) rfl ?_)
        exact ⟨rfl, ⟨m, hmS, by rw [HV.out], by rw [HV.out]; exact H.out.set1 m⟩, upd_set (upd_drewN _ _ _) 1 _⟩
      · have hv : rdS c (S.drop k, false) = (S.drop k, true) := by simp [rdS, hdr, hac]
        have e0 : ¬ (a.toNat : Int) = (c.toNat : Int) := fun e => hac (byte_ext (by omega))
        have HV := Lib.hid hv
        clear hv hdr
        go_enter Tryz.func94, Tryz.ntmps94
        go_wp2
        go_quiet (fail)
        go_wp2
        first | go_end0 | (refine bodyPost_ret (results_none rfl _ _ _) rfl ?_)
        exact ⟨rfl, ⟨k, hk, by rw [HV.out], by rw [HV.out]; exact H.out.set2 true⟩, upd_set (upd_drewN _ _ _) 2 _⟩
    · have hd : S.drop k = [] := List.drop_eq_nil_of_le (by omega)
      have hv : rdS c (S.drop k, false) = (S.drop k, true) := by simp [rdS, hd]
      have e0 : ¬ (k : Int) < ((bs S).size : Int) := by rw [bs_size]; omega
      have HV := Lib.hid hv
      clear hv hd
      go_enter Tryz.func94, Tryz.ntmps94
      go_wp2
      go_quiet (fail)
      go_wp2
      first | go_end0 | (refine bodyPost_ret (results_none rfl _ _ _) rfl ?_)
      exact ⟨rfl, ⟨k, hk, by rw [HV.out], by rw [HV.out]; exact H.out.set2 true⟩, upd_set (upd_drewN _ _ _) 2 _⟩
  · go_enter Tryz.func94, Tryz.ntmps94
    go_wp2
    first | go_end0 | (refine bodyPost_ret (results_none rfl _ _ _) rfl ?_)
    exact ⟨rfl, by rw [rdS_bad rfl]; exact ⟨k, hk, rfl, H.out⟩, Upd.refl _ _⟩

theorem RrOpen_any {w : World} {p : Nat} {S : List UInt8} {st : RS} (h : RfSt w p S st) (hs : S.length ≤ 140737488355328) :
    Calls Tryz.prog 65 #[.pointer (some ⟨p, 0, none⟩)] w fun e w' => e = .returned (.tuple #[]) ∧ RfSt w' p S (rdS 108 st) ∧ Upd (fun k => k = p) w w' := by
  have R := Lib.hid (show Calls Tryz.prog 94 #[.pointer (some ⟨p, 0, none⟩), .int .u8 108] w _ from RrSign_any h hs 108)
  clear h
  go_enter Tryz.func65, Tryz.ntmps65
  go_wp2_with (first | (go_at_call 94; refine R.out.mono ?_; rintro e w1 ⟨rfl, h1, h2⟩))
  go_end0
  exact ⟨rfl, h1, h2⟩

theorem RrClose_any {w : World} {p : Nat} {S : List UInt8} {st : RS} (h : RfSt w p S st) (hs : S.length ≤ 140737488355328) :
    Calls Tryz.prog 69 #[.pointer (some ⟨p, 0, none⟩)] w fun e w' => e = .returned (.tuple #[]) ∧ RfSt w' p S (rdS 101 st) ∧ Upd (fun k => k = p) w w' := by
  have R := Lib.hid (show Calls Tryz.prog 94 #[.pointer (some ⟨p, 0, none⟩), .int .u8 101] w _ from RrSign_any h hs 101)
  clear h
  go_enter Tryz.func69, Tryz.ntmps69
  go_wp2_with (first | (go_at_call 94; refine R.out.mono ?_; rintro e w1 ⟨rfl, h1, h2⟩))
  go_end0
  exact ⟨rfl, h1, h2⟩

theorem RrMore_any {w : World} {p : Nat} {S : List UInt8} {st : RS} (h : RfSt w p S st) (hs : S.length ≤ 140737488355328) :
    Calls Tryz.prog 67 #[.pointer (some ⟨p, 0, none⟩)] w fun e w' => e = .returned (.bool (rdM st)) ∧ Below w.heap.size w w' ∧ RfSt w' p S st := by
  obtain ⟨k, hk, e, hA⟩ := h
  obtain ⟨l, b⟩ := st
  have e : l = S.drop k := e
  subst e
  have H := Lib.hid hA
  have c0 := hA.cell0
  have c1 := hA.cell1
  have c2 := hA.cell2
  have hz := bs_size S
  have hk0 : (0 : Int) ≤ (k : Int) := by omega
  clear hA
  cases b
  · by_cases hin : k < S.length
    · have hb := bs_get S k (by rw [bs_size]; exact hin)
      have hsz : (k : Int) < ((bs S).size : Int) := by rw [bs_size]; omega
      have hdr : S.drop k = S[k] :: S.drop (k + 1) := List.drop_eq_getElem_cons hin
      obtain ⟨a, ha⟩ : ∃ a, S[k] = a := ⟨_, rfl⟩
      rw [ha] at hb hdr
      clear ha
      by_cases hac : a = 101
      · subst hac
        have hv : rdM (S.drop k, false) = false := by simp [rdM, hdr]
        have HV := Lib.hid hv
        clear hv hdr
        go_enter Tryz.func67, Tryz.ntmps67
        go_wp2
        go_quiet (fail)
        go_wp2
        go_ret
        exact ⟨ret_b (by rw [HV.out]), below_drewN (Below.refl _ _) _, ⟨k, hk, rfl, H.out⟩⟩
      · have hv : rdM (S.drop k, false) = true := by simp [rdM, hdr, hac]
        have e0 : ¬ (a.toNat : Int) = 101 := fun e => hac (byte_ext (by have e48 : (101 : UInt8).toNat = 101 := rfl; omega))
        have e0' : ((a.toNat : Int) != 101) = true := by rw [bne_iff_ne]; exact e0
        have HV := Lib.hid hv
        clear hv hdr
        go_enter Tryz.func67, Tryz.ntmps67
        go_wp2
        go_quiet (fail)
        go_wp2
        go_ret
        exact ⟨ret_b (by rw [HV.out]), below_drewN (Below.refl _ _) _, ⟨k, hk, rfl, H.out⟩⟩
    · have hd : S.drop k = [] := List.drop_eq_nil_of_le (by omega)
      have hv : rdM (S.drop k, false) = false := by simp [rdM, hd]
      have e0 : ¬ (k : Int) < ((bs S).size : Int) := by rw [bs_size]; omega
      have HV := Lib.hid hv
      clear hv hd
      go_enter Tryz.func67, Tryz.ntmps67
      go_wp2
      go_quiet (fail)
      go_wp2
      go_ret
      exact ⟨ret_b (by rw [HV.out]), below_drewN (Below.refl _ _) _, ⟨k, hk, rfl, H.out⟩⟩
  · have hv : rdM (S.drop k, true) = false := rfl
    have HV := Lib.hid hv
    clear hv
    go_enter Tryz.func67, Tryz.ntmps67
    go_wp2
    go_quiet (fail)
    go_wp2
    go_ret
    exact ⟨ret_b (by rw [HV.out]), below_drewN (Below.refl _ _) _, ⟨k, hk, rfl, H.out⟩⟩

theorem RrDone_any {w : World} {p : Nat} {S : List UInt8} {st : RS} (h : RfSt w p S st) (hs : S.length ≤ 140737488355328) :
    Calls Tryz.prog 72 #[.pointer (some ⟨p, 0, none⟩)] w fun e w' => e = .returned (.int .i64 (if rdD st = true then 0 else 3)) ∧ Below w.heap.size w w' := by
  obtain ⟨k, hk, e, hA⟩ := h
  obtain ⟨l, b⟩ := st
  have e : l = S.drop k := e
  subst e
  have c0 := hA.cell0
  have c1 := hA.cell1
  have c2 := hA.cell2
  have hz := bs_size S
  have hk0 : (0 : Int) ≤ (k : Int) := by omega
  clear hA
  have hD : rdD (S.drop k, b) = (!b && (S.drop k).isEmpty) := rfl
  rw [hD]
  cases b
  · by_cases hin : k < S.length
    · have hsz : (k : Int) < ((bs S).size : Int) := by rw [bs_size]; omega
      have hdr : S.drop k = S[k] :: S.drop (k + 1) := List.drop_eq_getElem_cons hin
      rw [hdr]
      clear hdr hD
      go_enter Tryz.func72, Tryz.ntmps72
      go_wp2
      go_quiet (fail)
      go_wp2
      go_ret
      exact ⟨rfl, below_drewN (Below.refl _ _) _⟩
    · have hd : S.drop k = [] := List.drop_eq_nil_of_le (by omega)
      have e0 : ¬ (k : Int) < ((bs S).size : Int) := by rw [bs_size]; omega
      rw [hd]
      clear hd hD
      go_enter Tryz.func72, Tryz.ntmps72
      go_wp2
      go_quiet (fail)
      go_wp2
      go_ret
      exact ⟨rfl, below_drewN (Below.refl _ _) _⟩
  · clear hD
    go_enter Tryz.func72, Tryz.ntmps72
    go_wp2
    go_quiet (fail)
    go_wp2
    go_ret
    exact ⟨rfl, below_drewN (Below.refl _ _) _⟩
end Go.Proofs.YtdchjepahgecgaaGreatDoor
namespace Go.Proofs.YtdchjepahgecgaaGreatDoor
open Go.RowKit Go.Lib

/-- A text off bytes, as the document's answer reads it. -/
def rTxt (most : Nat) (s : List UInt8) : Option (List UInt8 × List UInt8) :=
  let n := refNum s
  if 0 < n.1 ∧ (s.drop n.1).head? = some 58 ∧ n.2 ≤ most ∧ n.2 ≤ s.length - n.1 - 1 then some ((s.drop (n.1 + 1)).take n.2, (s.drop (n.1 + 1)).drop n.2) else none

theorem rTxt_iff (most : Nat) (hm : most ≤ 1000) (s t r : List UInt8) : rTxt most s = some (t, r) ↔ t.length ≤ most ∧ s = encX t ++ r := by
  constructor
  · intro h
    unfold rTxt at h
    simp only at h
    split at h
    · rename_i hc
      obtain ⟨h1, h2, h3, h4⟩ := hc
      simp only [Option.some.injEq, Prod.mk.injEq] at h
      obtain ⟨rfl, rfl⟩ := h
      obtain ⟨z, e1, e2, e3, -⟩ := refNum_pos (l := s) (k := (refNum s).1) (u := (refNum s).2) rfl h1
      generalize (refNum s).1 = k at *
      generalize (refNum s).2 = u at *
      have ez : s.drop k = z := by rw [e1, e3]; simp
      have hz := cons_of_head h2
      have e5 : s.drop (k + 1) = z.tail := by rw [← List.drop_drop, ez, List.drop_one]
      have hl : z.length = s.length - k := by rw [← ez, List.length_drop]
      have hkl : k ≤ s.length := by rw [e1, e3]; simp
      have hzl : z.tail.length = s.length - k - 1 := by rw [List.length_tail, hl]
      have hlen : ((s.drop (k + 1)).take u).length = u := by rw [e5, List.length_take, hzl]; omega
      refine ⟨by rw [hlen]; exact h3, ?_⟩
      unfold encX
      rw [hlen]
      have hi : itoa (u : Int) = decDigits u := by rw [itoa, if_neg (by omega)]; rfl
      rw [hi, List.append_assoc, List.cons_append, List.take_append_drop, e5, ← ez, ← hz, ez, ← e1]
    · cases h
  · rintro ⟨hl, rfl⟩
    have hi : itoa (t.length : Int) = decDigits t.length := by rw [itoa, if_neg (by omega)]; rfl
    have hs : encX t ++ r = decDigits t.length ++ (58 :: (t ++ r)) := by simp [encX, hi]
    have hr : refNum (encX t ++ r) = ((decDigits t.length).length, t.length) := by rw [hs]; exact refNum_of (by omega) rfl
    have hpos : 0 < (decDigits t.length).length := List.length_pos_iff.2 (digits_ne _)
    unfold rTxt
    simp only [hr]
    rw [hs, if_pos]
    · rw [← List.drop_drop]; simp
    · refine ⟨hpos, by simp, hl, ?_⟩
      simp

theorem rTxt_eq (most : Nat) (hm : most ≤ 1000) (s : List UInt8) : rTxt most s = bTxt most s := by
  cases h : bTxt most s with
  | some q =>
    obtain ⟨t, r⟩ := q
    exact (rTxt_iff most hm s t r).2 ((bTxt_iff hm s t r).1 h)
  | none =>
    cases h2 : rTxt most s with
    | none => rfl
    | some q =>
      obtain ⟨t, r⟩ := q
      rw [(bTxt_iff hm s t r).2 ((rTxt_iff most hm s t r).1 h2)] at h
      cases h
end Go.Proofs.YtdchjepahgecgaaGreatDoor
namespace Go.Proofs.YtdchjepahgecgaaGreatDoor
open Go.RowKit

theorem rTxt_calc {s : List UInt8} {most n u : Nat} (h : refNum s = (n, u)) : rTxt most s = if 0 < n ∧ (s.drop n).head? = some 58 ∧ u ≤ most ∧ u ≤ s.length - n - 1 then some ((s.drop (n + 1)).take u, (s.drop (n + 1)).drop u) else none := by
  unfold rTxt
  rw [h]

theorem rdT_none {s : List UInt8} {most : Nat} (hm : most ≤ 1000) (h : rTxt most s = none) : rdT most (s, false) = ([], (s, true)) := by
  rw [rTxt_eq _ hm] at h
  simp [rdT, h]
theorem rdT_some {s t r : List UInt8} {most : Nat} (hm : most ≤ 1000) (h : rTxt most s = some (t, r)) : rdT most (s, false) = (t, (r, false)) := by
  rw [rTxt_eq _ hm] at h
  simp [rdT, h]

theorem u64_nat {L : Nat} (h : L ≤ 140737488355328) : IntKind.u64.wrap (L : Int) = (L : Int) := IntWalk.u64_in _ (by omega)
theorem i64_nat {L : Nat} (h : L ≤ 140737488355328) : IntKind.i64.wrap (L : Int) = (L : Int) := IntWalk.i64_in _ (by omega)
theorem w64_nat {L : Nat} (h : L ≤ 140737488355328) : wrap64 (L : Int) = (L : Int) := by rw [← IntWalk.i64_left]; exact i64_nat h
theorem i64_of {x : Int} {L : Nat} (e : x = (L : Int)) (h : L ≤ 140737488355328) : IntKind.i64.wrap x = (L : Int) := by rw [e]; exact i64_nat h

def RfTxt (w : World) (p : Nat) (S : List UInt8) (r : List UInt8 × RS) (e : Ending) (w' : World) : Prop :=
  e = .returned (.string (bs r.1)) ∧ RfSt w' p S r.2 ∧ Upd (fun k => k = p) w w'

theorem upd_drewN2 {F : Nat → Prop} {w : World} {n : Nat} {b o : Nat} {x : Value} (h : F b) : Upd F w ((w.drewN n).setCell ⟨b, o, none⟩ x) :=
  (upd_drewN F w n).trans ((upd_set1 (w.drewN n) b o x).mono (fun k _ e => by rw [e]; exact h))
theorem RfAt.drewN {w : World} {p : Nat} {S : List UInt8} {k : Nat} {b : Bool} (h : RfAt w p S k b) (n : Nat) : RfAt (w.drewN n) p S k b := h

set_option maxRecDepth 100000 in
set_option maxHeartbeats 4000000 in
theorem RrText_go {w : World} {p : Nat} {S : List UInt8} {k most : Nat} (hm : most ≤ 1000) (h : RfAt w p S k false) (hk : k ≤ S.length) (hs : S.length ≤ 140737488355328) :
    Calls Tryz.prog 68 #[.pointer (some ⟨p, 0, none⟩), .int .i64 (most : Int)] w (RfTxt w p S (rdT most (S.drop k, false))) := by
  have H := Lib.hid h
  have c0 := h.cell0
  have c1 := h.cell1
  have c2 := h.cell2
  have f1 := h.free 1
  have f2 := h.free 2
  have hz := bs_size S
  have hk0 : (0 : Int) ≤ (k : Int) := by omega
  obtain ⟨nu, hnu⟩ : ∃ nu, refNum (S.drop k) = nu := ⟨_, rfl⟩
  obtain ⟨n, u⟩ := nu
  have hN : ∀ j, Calls Tryz.prog 95 #[.string (bs S), .int .i64 (k : Int)] (w.drewN j) fun e w' => e = .returned (.tuple #[.int .i64 n, .int .u64 u]) ∧ w' = w.drewN j := by
    intro j
    have := number_any S k hk hs (w.drewN j)
    rw [hnu] at this
    exact this
  have HN := Lib.hid hN
  have hcalc := rTxt_calc (most := most) hnu
  clear hN h
  have hm0 : (0 : Int) ≤ (most : Int) := by omega
  have hmw : IntKind.u64.wrap (most : Int) = (most : Int) := IntWalk.u64_in _ (by omega)
  have HM := Lib.hid hm
  clear hm
  by_cases hn : 0 < n
  case neg =>
    have n0 : n = 0 := by omega
    subst n0
    have a3 : IntKind.i64.wrap ((k : Int) + ((0 : Nat) : Int)) = (k : Int) := by
      have e : (k : Int) + ((0 : Nat) : Int) = (k : Int) := by omega
      rw [e]; exact IntWalk.i64_in _ (by omega)
    have hv : rdT most (S.drop k, false) = ([], (S.drop k, true)) := rdT_none HM.out (by rw [hcalc, if_neg (fun h => hn h.1)])
    have HV := Lib.hid hv
    clear hv hcalc hnu hn
    go_enter Tryz.func68, Tryz.ntmps68
    go_wp2
    go_quiet ((go_at_call 95; with_reducible exact Calls.quiet_of_same (HN.out _)))
    go_wp2
    exact bodyPost_ret (v := .string ⟨#[]⟩) (by simp [results, Tryz.results68, go_sem]) rfl ⟨by rw [HV.out]; rfl, ⟨k, hk, by rw [HV.out], by rw [HV.out]; exact (H.out.drewN _).set2 true⟩, upd_drewN2 rfl⟩
  obtain ⟨r, er, hu64, hnl, -⟩ := refNum_pos hnu hn
  have hlen := congrArg List.length er
  rw [List.length_append, List.length_drop, ← hnl] at hlen
  obtain ⟨e, he⟩ : ∃ e, k + n = e := ⟨_, rfl⟩
  have hdn : (S.drop k).drop n = S.drop e := by rw [List.drop_drop, he]
  have hdn1 : (S.drop k).drop (n + 1) = S.drop (e + 1) := by rw [List.drop_drop, ← he]; rfl
  have hll : (S.drop k).length - n - 1 = S.length - e - 1 := by rw [List.length_drop]; omega
  rw [hdn, hdn1, hll] at hcalc
  have a3 : IntKind.i64.wrap ((k : Int) + (n : Int)) = (e : Int) := by
    have e' : (k : Int) + (n : Int) = (e : Int) := by omega
    rw [e']; exact IntWalk.i64_in _ (by omega)
  have hn' : (0 : Int) < (n : Int) := by omega
  have a30 : (0 : Int) ≤ (e : Int) := by omega
  clear hdn hdn1 hll er hnu he hlen hnl
  by_cases hei : e < S.length
  case neg =>
    have hde : S.drop e = [] := List.drop_eq_nil_of_le (by omega)
    have e0 : ¬ (e : Int) < ((bs S).size : Int) := by rw [bs_size]; omega
    have hv : rdT most (S.drop k, false) = ([], (S.drop k, true)) := rdT_none HM.out (by rw [hcalc, if_neg]; rintro ⟨-, h, -⟩; rw [hde] at h; cases h)
    have HV := Lib.hid hv
    clear hv hcalc hde
    go_enter Tryz.func68, Tryz.ntmps68
    go_wp2
    go_quiet ((go_at_call 95; with_reducible exact Calls.quiet_of_same (HN.out _)))
    go_wp2
    exact bodyPost_ret (v := .string ⟨#[]⟩) (by simp [results, Tryz.results68, go_sem]) rfl ⟨by rw [HV.out]; rfl, ⟨k, hk, by rw [HV.out], by rw [HV.out]; exact (H.out.drewN _).set2 true⟩, upd_drewN2 rfl⟩
  have hbe := bs_get S e (by rw [bs_size]; exact hei)
  have hsze : (e : Int) < ((bs S).size : Int) := by rw [bs_size]; omega
  have hdre : S.drop e = S[e] :: S.drop (e + 1) := List.drop_eq_getElem_cons hei
  obtain ⟨ce, hce⟩ : ∃ ce, S[e] = ce := ⟨_, rfl⟩
  rw [hce] at hbe hdre
  clear hce
  have hhe : (S.drop e).head? = some ce := by rw [hdre]; rfl
  rw [hhe] at hcalc
  clear hdre hhe
  by_cases h58 : ce = 58
  case neg =>
    have e0 : ¬ (ce.toNat : Int) = 58 := fun e' => h58 (byte_ext (by have e48 : (58 : UInt8).toNat = 58 := rfl; omega))
    have hv : rdT most (S.drop k, false) = ([], (S.drop k, true)) := rdT_none HM.out (by rw [hcalc, if_neg]; rintro ⟨-, h, -⟩; exact h58 (Option.some.inj h))
    have HV := Lib.hid hv
    clear hv hcalc
    go_enter Tryz.func68, Tryz.ntmps68
    go_wp2
    go_quiet ((go_at_call 95; with_reducible exact Calls.quiet_of_same (HN.out _)))
    go_wp2
    exact bodyPost_ret (v := .string ⟨#[]⟩) (by simp [results, Tryz.results68, go_sem]) rfl ⟨by rw [HV.out]; rfl, ⟨k, hk, by rw [HV.out], by rw [HV.out]; exact (H.out.drewN _).set2 true⟩, upd_drewN2 rfl⟩
  subst h58
  obtain ⟨L, hL⟩ : ∃ L, S.length - e - 1 = L := ⟨_, rfl⟩
  rw [hL] at hcalc
  have hLS : L + e + 1 = S.length := by clear hcalc hmw a3 hu64 hz hbe hsze; omega
  have hLb : L ≤ 140737488355328 := by clear hcalc hmw a3 hu64 hz hbe hsze; omega
  have hLe : (S.length : Int) - (e : Int) = (L : Int) + 1 := by clear hcalc hmw a3 hu64 hz hbe hsze; omega
  have hL1 : (L : Int) + 1 = ((L + 1 : Nat) : Int) := rfl
  have hLb1 : L + 1 ≤ 140737488355328 := by clear hcalc hmw a3 hu64 hz hbe hsze; omega
  have a5' : IntKind.i64.wrap ((S.length : Int) - (e : Int)) = (L : Int) + 1 := i64_of hLe hLb1
  have a5 : IntKind.i64.wrap (((bs S).size : Int) - (e : Int)) = (L : Int) + 1 := by rw [hz]; exact a5'
  have a6 : IntKind.i64.wrap ((L : Int) + 1 - 1) = (L : Int) := i64_of (Int.add_sub_cancel _ _) hLb
  have a6' : wrap64 (L : Int) = (L : Int) := w64_nat hLb
  have a7 : IntKind.u64.wrap (L : Int) = (L : Int) := u64_nat hLb
  have HL := Lib.hid hLS
  clear hL hLS hLb hLe hL1 hLb1
  by_cases hum : u ≤ most
  case neg =>
    have e1 : ¬ (u : Int) ≤ (most : Int) := fun h => hum (Int.ofNat_le.1 h)
    have hv : rdT most (S.drop k, false) = ([], (S.drop k, true)) := rdT_none HM.out (by rw [hcalc, if_neg]; rintro ⟨-, -, h, -⟩; exact hum h)
    have HV := Lib.hid hv
    clear hv hcalc
    go_enter Tryz.func68, Tryz.ntmps68
    go_wp2
    go_quiet ((go_at_call 95; with_reducible exact Calls.quiet_of_same (HN.out _)))
    go_wp2
    exact bodyPost_ret (v := .string ⟨#[]⟩) (by simp [results, Tryz.results68, go_sem]) rfl ⟨by rw [HV.out]; rfl, ⟨k, hk, by rw [HV.out], by rw [HV.out]; exact (H.out.drewN _).set2 true⟩, upd_drewN2 rfl⟩
  have e1 : (u : Int) ≤ (most : Int) := Int.ofNat_le.2 hum
  by_cases hul : u ≤ L
  case neg =>
    have e2 : ¬ (u : Int) ≤ (L : Int) := fun h => hul (Int.ofNat_le.1 h)
    have hv : rdT most (S.drop k, false) = ([], (S.drop k, true)) := rdT_none HM.out (by rw [hcalc, if_neg]; rintro ⟨-, -, -, h⟩; exact hul h)
    have HV := Lib.hid hv
    clear hv hcalc
    go_enter Tryz.func68, Tryz.ntmps68
    go_wp2
    go_quiet ((go_at_call 95; with_reducible exact Calls.quiet_of_same (HN.out _)))
    go_wp2
    exact bodyPost_ret (v := .string ⟨#[]⟩) (by simp [results, Tryz.results68, go_sem]) rfl ⟨by rw [HV.out]; rfl, ⟨k, hk, by rw [HV.out], by rw [HV.out]; exact (H.out.drewN _).set2 true⟩, upd_drewN2 rfl⟩
  have e2 : (u : Int) ≤ (L : Int) := Int.ofNat_le.2 hul
  obtain ⟨f, hf⟩ : ∃ f, e + 1 = f := ⟨_, rfl⟩
  obtain ⟨g, hg⟩ : ∃ g, f + u = g := ⟨_, rfl⟩
  have hLo := HL.out
  have hgS : g ≤ S.length := by clear hcalc hmw a3 hu64 hz hbe hsze a5 a5' a6 a6' a7 e1 e2; omega
  have hfg : f ≤ g := by clear hcalc hmw a3 hu64 hz hbe hsze a5 a5' a6 a6' a7 e1 e2; omega
  have hfb : f ≤ 140737488355328 := Nat.le_trans hfg (Nat.le_trans hgS hs)
  have hgb : g ≤ 140737488355328 := Nat.le_trans hgS hs
  have hub : u ≤ 140737488355328 := Nat.le_trans (by omega) hgb
  have a8 : IntKind.i64.wrap ((e : Int) + 1) = (f : Int) := i64_of (by rw [← hf]; rfl) hfb
  have a9 : IntKind.i64.wrap (u : Int) = (u : Int) := i64_nat hub
  have a10 : IntKind.i64.wrap ((f : Int) + (u : Int)) = (g : Int) := i64_of (by rw [← hg]; rfl) hgb
  have g1 : (f : Int) ≤ (g : Int) := Int.ofNat_le.2 hfg
  have g2 : (g : Int) ≤ ((bs S).size : Int) := by rw [bs_size]; exact Int.ofNat_le.2 hgS
  have g3 : (0 : Int) ≤ (f : Int) := Int.natCast_nonneg _
  have g4 : (0 : Int) ≤ (g : Int) := Int.natCast_nonneg _
  have hcut : (bs S).extract f g = bs ((S.drop f).take u) := by rw [bs_extract]; rw [show g - f = u by omega]
  have hrest : (S.drop f).drop u = S.drop g := by rw [List.drop_drop, hg]
  have hv : rdT most (S.drop k, false) = ((S.drop f).take u, (S.drop g, false)) := rdT_some HM.out (by rw [hcalc, if_pos ⟨hn, rfl, hum, hul⟩, hf, hrest])
  have HV := Lib.hid hv
  have HCUT := Lib.hid hcut
  have HA := Lib.hid ((H.out.set1 g))
  have y0 := HA.out.cell0
  have y1 := HA.out.cell1
  clear hv hcalc hLo hcut hrest hf hg HL HM
  have hsetN : ∀ j, RfAt ((w.drewN j).setCell ⟨p, 1, none⟩ (.int .i64 (g : Int))) p S g false := fun j => (H.out.drewN j).set1 g
  have hz0 : ∀ j, ((w.drewN j).setCell ⟨p, 1, none⟩ (.int .i64 (g : Int))).cell? ⟨p, 0, none⟩ = some (.string (bs S)) := fun j => (hsetN j).cell0
  have hz1 : ∀ j, ((w.drewN j).setCell ⟨p, 1, none⟩ (.int .i64 (g : Int))).cell? ⟨p, 1, none⟩ = some (.int .i64 (g : Int)) := fun j => (hsetN j).cell1
  go_enter Tryz.func68, Tryz.ntmps68
  go_wp2
  go_quiet ((go_at_call 95; with_reducible exact Calls.quiet_of_same (HN.out _)))
  go_upto_region 7 with fail
  go_quiet (fail)
  go_wp2
  refine bodyPost_ret (v := .string (bs ((S.drop f).take u))) ?_ rfl ⟨by rw [HV.out], ⟨g, hgS, by rw [HV.out], by rw [HV.out]; exact ((H.out.drewN _).set1 g)⟩, ?_⟩
  · simp [results, Tryz.results68, go_sem]
    exact HCUT.out
  · exact (upd_drewN2 (F := fun b => b = p) rfl).trans (upd_drewN _ _ _)

theorem RrText_any {w : World} {p : Nat} {S : List UInt8} {st : RS} {most : Nat} (hm : most ≤ 1000) (h : RfSt w p S st) (hs : S.length ≤ 140737488355328) :
    Calls Tryz.prog 68 #[.pointer (some ⟨p, 0, none⟩), .int .i64 (most : Int)] w (RfTxt w p S (rdT most st)) := by
  obtain ⟨k, hk, e, hA⟩ := h
  obtain ⟨l, b⟩ := st
  have e : l = S.drop k := e
  subst e
  cases b
  · exact RrText_go hm hA hk hs
  · have c2 := hA.cell2
    rw [rdT_bad rfl]
    have H := Lib.hid hA
    clear hA
    go_enter Tryz.func68, Tryz.ntmps68
    go_wp2
    exact bodyPost_ret (v := .string ⟨#[]⟩) (by simp [results, Tryz.results68, go_sem]) rfl ⟨rfl, ⟨k, hk, rfl, H.out⟩, Upd.refl _ _⟩
end Go.Proofs.YtdchjepahgecgaaGreatDoor
