/- The walk of frame.Next. -/
import Derived.Test.YtcpaaleogmiamaaGreatDoorMh16
import Derived.Deep.RegionHeld3
import Derived.Deep.RegionLawGrows
import Derived.Deep.DeepCutAuto
namespace Go.Proofs.YtcpaaleogmiamaaGreatDoor
open Go.RowKit

theorem FrNumber_all (l : List UInt8) (hl : 4 ≤ l.length) (w : World) : Calls Tryz.prog 167 #[.string (bs l)] w fun e w' => e = .returned (.int .u32 (numB l : Int)) ∧ w' = w := by
  match l, hl with
  | a :: b :: c :: d :: r, _ => exact FrNumber_any a b c d r w
theorem numB_lt (l : List UInt8) : numB l < 4294967296 := by
  match l with
  | a :: b :: c :: d :: r =>
    have ha : a.toNat < 256 := a.toNat_lt
    have hb : b.toNat < 256 := b.toNat_lt
    have hc : c.toNat < 256 := c.toNat_lt
    have hd : d.toNat < 256 := d.toNat_lt
    simp only [numB]
    omega
  | [] => simp [numB]
  | [_] => simp [numB]
  | [_, _] => simp [numB]
  | [_, _, _] => simp [numB]

/-- What frame.Next answers. -/
def nextV (s : List UInt8) (k : Nat) : List UInt8 × Nat × Int :=
  if s.length < k then ([], 0, 1)
  else if (s.drop k).length < 8 then ([], 0, 5)
  else if 16384 < numB (s.drop k) then ([], 0, 4)
  else if (s.drop k).length - 8 < numB (s.drop k) then ([], 0, 5)
  else if sumN (((s.drop k).drop 8).take (numB (s.drop k))) ≠ numB ((s.drop k).drop 4) then ([], 0, 6)
  else (((s.drop k).drop 8).take (numB (s.drop k)), k + 8 + numB (s.drop k), 0)

def NextTo (w : World) (x : List UInt8 × Nat × Int) (e : Ending) (w' : World) : Prop :=
  e = .returned (.tuple #[.string (bs x.1), .int .i64 (x.2.1 : Int), .int .i64 x.2.2]) ∧ Below w.heap.size w w'
theorem next_mk {w w' : World} {x y : List UInt8 × Nat × Int} {e : Ending} (h : y = x) (he : e = .returned (.tuple #[.string (bs y.1), .int .i64 (y.2.1 : Int), .int .i64 y.2.2])) (hb : Below w.heap.size w w') : NextTo w x e w' := by
  subst h; exact ⟨he, hb⟩

set_option maxRecDepth 100000 in
set_option maxHeartbeats 1000000 in
theorem FrNext_any (s : List UInt8) (hs : s.length ≤ 140737488355328) (k : Nat) (hk : k ≤ 140737488355328) (w : World) : Calls Tryz.prog 132 #[.string (bs s), .int .i64 (k : Int)] w (NextTo w (nextV s k)) := by
  have hz : ((bs s).size : Int) = (s.length : Int) := by rw [bs_size]
  have k0 : ¬ (k : Int) < 0 := by omega
  by_cases c1 : s.length < k
  · have hv : ([], 0, 1) = nextV s k := by unfold nextV; rw [if_pos c1]
    have HV := Lib.hid hv
    clear hv
    have c1' : ((bs s).size : Int) < (k : Int) := by rw [hz]; omega
    go_enter Tryz.func132, Tryz.ntmps132
    go_wp2
    exact bodyPost_ret (v := .tuple #[.string (bs []), .int .i64 ((0 : Nat) : Int), .int .i64 1]) (by simp [results, Tryz.results132, go_sem]; rfl) rfl (next_mk HV.out rfl (Below.refl _ _))
  · have c1' : ¬ ((bs s).size : Int) < (k : Int) := by rw [hz]; omega
    have kz : k ≤ (bs s).size := by rw [bs_size]; omega
    have hex : (bs s).extract k (bs s).size = bs (s.drop k) := by rw [bs_extract, bs_size]; rw [List.take_of_length_le (by simp)]
    obtain ⟨r, hr⟩ : ∃ r, s.drop k = r := ⟨_, rfl⟩
    have hrl : r.length ≤ 140737488355328 := by rw [← hr]; simp; omega
    have hrz : ((bs r).size : Int) = (r.length : Int) := by rw [bs_size]
    have hvv : nextV s k = if r.length < 8 then ([], 0, 5)
      else if 16384 < numB r then ([], 0, 4)
      else if r.length - 8 < numB r then ([], 0, 5)
      else if sumN ((r.drop 8).take (numB r)) ≠ numB (r.drop 4) then ([], 0, 6)
      else ((r.drop 8).take (numB r), k + 8 + numB r, 0) := by unfold nextV; rw [if_neg c1, hr]
    rw [hr] at hex
    have HX := Lib.hid hex
    have hzk : (((bs s).size - k : Nat) : Int) = (r.length : Int) := by rw [bs_size, ← hr]; simp
    have HVV := Lib.hid hvv
    clear hex hvv hr
    by_cases c2 : r.length < 8
    · have c2' : (r.length : Int) < 8 := by omega
      have hv : ([], 0, 5) = nextV s k := by rw [HVV.out, if_pos c2]
      have HV := Lib.hid hv
      clear hv
      go_enter Tryz.func132, Tryz.ntmps132
      go_upto_region 3 with fail
      go_wp2
      rw [HX.out]
      go_wp2
      exact bodyPost_ret (v := .tuple #[.string (bs []), .int .i64 ((0 : Nat) : Int), .int .i64 5]) (by simp [results, Tryz.results132, go_sem]; rfl) rfl (next_mk HV.out rfl (Below.refl _ _))
    · have c2' : ¬ (r.length : Int) < 8 := by omega
      have hnum := fun W => FrNumber_all r (by omega) W
      have hnum4 := fun W => FrNumber_all (r.drop 4) (by simp; omega) W
      have hn := numB_lt r
      have hn4 := numB_lt (r.drop 4)
      obtain ⟨n, hN⟩ : ∃ n, numB r = n := ⟨_, rfl⟩
      obtain ⟨n4, hN4⟩ : ∃ n, numB (r.drop 4) = n := ⟨_, rfl⟩
      rw [hN] at hnum hn
      rw [hN4] at hnum4 hn4
      have HN := Lib.hid hnum
      have HN4 := Lib.hid hnum4
      have hvv : nextV s k = if 16384 < n then ([], 0, 4)
        else if r.length - 8 < n then ([], 0, 5)
        else if sumN ((r.drop 8).take n) ≠ n4 then ([], 0, 6)
        else ((r.drop 8).take n, k + 8 + n, 0) := by rw [HVV.out, if_neg c2, hN, hN4]
      clear HVV hN hN4 hnum hnum4
      have HVV := Lib.hid hvv
      clear hvv
      by_cases c3 : 16384 < n
      · have c3' : (16384 : Int) < (n : Int) := by omega
        have hv : ([], 0, 4) = nextV s k := by rw [HVV.out, if_pos c3]
        have HV := Lib.hid hv
        clear hv
        go_enter Tryz.func132, Tryz.ntmps132
        go_upto_region 3 with fail
        go_wp2_with fail
        rw [HX.out]
        with_reducible refine (HN.out _).mono ?_
        rintro _ w1 ⟨rfl, rfl⟩
        go_wp2
        exact bodyPost_ret (v := .tuple #[.string (bs []), .int .i64 ((0 : Nat) : Int), .int .i64 4]) (by simp [results, Tryz.results132, go_sem]; rfl) rfl (next_mk HV.out rfl (Below.refl _ _))
      · have c3' : ¬ (16384 : Int) < (n : Int) := by omega
        by_cases c4 : r.length - 8 < n
        · have c4' : (r.length : Int) - 8 < (n : Int) := by omega
          have hv : ([], 0, 5) = nextV s k := by rw [HVV.out, if_neg c3, if_pos c4]
          have HV := Lib.hid hv
          clear hv
          go_enter Tryz.func132, Tryz.ntmps132
          go_upto_region 3 with fail
          go_wp2_with fail
          rw [HX.out]
          with_reducible refine (HN.out _).mono ?_
          rintro _ w1 ⟨rfl, rfl⟩
          go_wp2
          exact bodyPost_ret (v := .tuple #[.string (bs []), .int .i64 ((0 : Nat) : Int), .int .i64 5]) (by simp [results, Tryz.results132, go_sem]; rfl) rfl (next_mk HV.out rfl (Below.refl _ _))
        · have c4' : ¬ (r.length : Int) - 8 < (n : Int) := by omega
          have q1 : 8 + n ≤ (bs r).size := by rw [bs_size]; omega
          have q2 : 4 ≤ (bs r).size := by rw [bs_size]; omega
          have q3 : (4 : Int) ≤ (r.length : Int) := by omega
          have hex2 : (bs r).extract 8 (8 + n) = bs ((r.drop 8).take n) := by rw [bs_extract, show 8 + n - 8 = n by omega]
          have hex3 : (bs r).extract 4 (bs r).size = bs (r.drop 4) := by rw [bs_extract, bs_size]; rw [List.take_of_length_le (by simp)]
          have HX2 := Lib.hid hex2
          have hnx : ∀ W, Calls Tryz.prog 167 #[.string ((bs r).extract 4 (bs r).size)] W fun e w' => e = .returned (.int .u32 (n4 : Int)) ∧ w' = W := by
            rw [hex3]; exact HN4.out
          have HNX := Lib.hid hnx
          clear HN4 hnx
          have hsum := fun W => FrSum_any ((r.drop 8).take n) (by simp; omega) W
          rw [sumN_eq] at hsum
          have hsl := sumN_lt ((r.drop 8).take n)
          clear hex2 hex3
          obtain ⟨y, hy⟩ : ∃ y, (r.drop 8).take n = y := ⟨_, rfl⟩
          rw [hy] at hsum HX2 HVV hsl
          obtain ⟨m, hm⟩ : ∃ m, sumN y = m := ⟨_, rfl⟩
          rw [hm] at hsum HVV hsl
          have HS := Lib.hid hsum
          clear hy hm hsum
          have kn : (k : Int) + 8 + (n : Int) = ((k + 8 + n : Nat) : Int) := by omega
          have HKN := Lib.hid kn
          clear kn
          by_cases c5 : m = n4
          · subst c5
            have hv : (y, k + 8 + n, 0) = nextV s k := by rw [HVV.out, if_neg c3, if_neg c4, if_neg (by simp)]
            have HV := Lib.hid hv
            clear hv
            go_enter Tryz.func132, Tryz.ntmps132
            go_upto_region 3 with fail
            go_wp2_with fail
            rw [HX.out]
            with_reducible refine (HN.out _).mono ?_
            rintro _ w1 ⟨rfl, rfl⟩
            go_wp2
            rw [HX2.out]
            go_region_held3 (fun _ => True) (trivial) (first | (go_at_call 168; refine (HS.out _).mono ?_; rintro _ w2 ⟨rfl, hb2⟩) | (go_at_call 167; with_reducible refine (HNX.out _).mono ?_; rintro _ w3 ⟨rfl, rfl⟩))
            go_wp2
            exact bodyPost_ret (v := .tuple #[.string (bs y), .int .i64 ((k + 8 + n : Nat) : Int), .int .i64 0]) (by simp [results, Tryz.results132, go_sem]) rfl (next_mk HV.out rfl (below_trans (show Below w1.heap.size w1 w1.drew from (Below.refl _ _).drew) hb2))
          · have c5' : ¬ (m : Int) = (n4 : Int) := by omega
            have hv : ([], 0, 6) = nextV s k := by rw [HVV.out, if_neg c3, if_neg c4, if_pos c5]
            have HV := Lib.hid hv
            clear hv
            go_enter Tryz.func132, Tryz.ntmps132
            go_upto_region 3 with fail
            go_wp2_with fail
            rw [HX.out]
            with_reducible refine (HN.out _).mono ?_
            rintro _ w1 ⟨rfl, rfl⟩
            go_wp2
            rw [HX2.out]
            go_region_held3 (fun _ => True) (trivial) (first | (go_at_call 168; refine (HS.out _).mono ?_; rintro _ w2 ⟨rfl, hb2⟩) | (go_at_call 167; with_reducible refine (HNX.out _).mono ?_; rintro _ w3 ⟨rfl, rfl⟩))
            go_wp2
            exact bodyPost_ret (v := .tuple #[.string (bs []), .int .i64 ((0 : Nat) : Int), .int .i64 6]) (by simp [results, Tryz.results132, go_sem]; rfl) rfl (next_mk HV.out rfl (below_trans (show Below w1.heap.size w1 w1.drew from (Below.refl _ _).drew) hb2))
end Go.Proofs.YtcpaaleogmiamaaGreatDoor
