/- The walk of frame.Next. -/
/- Frames one behind the other, in plain words. -/
/- Texts as bytes, in plain words. -/
import Derived.Test.YtcpaaleogmiamaaGreatDoorMp9
import Derived.Deep.RegionHeld3
import Derived.Deep.RegionLawGrows
import Derived.Deep.DeepCutAuto
import Derived.ScopeJumps
import Derived.WalkMore
import Derived.Test.YtcpaaleogmiamaaGreatDoorMp3
namespace Go.Proofs.YtcpaaleogmiamaaGreatDoor
open Go.RowKit

theorem FrNumber_all (l : List UInt8) (hl : 4 ≤ l.length) (w : World) : Calls Tryz.prog 167 #[.string (bs l)] w fun e w' => e = .returned (.int .u32 (numB l : Int)) ∧ w' = w := by
  match l, hl with
  | a :: b :: c :: d :: r, _ => exact FrNumber_any a b c d r w
theorem numB_lt (l : List UInt8) : numB l < 4294967296 := by
  match l with
  | a :: b :: c :: d :: r =>
    have ha : a.toNat < 256 := a.toNat_lt
    have hb : b.toNat < 256 := b.toNat_lt
    have hc : c.toNat < 256 := c.toNat_lt
    have hd : d.toNat < 256 := d.toNat_lt
    simp only [numB]
    omega
  | [] => simp [numB]
  | [_] => simp [numB]
  | [_, _] => simp [numB]
  | [_, _, _] => simp [numB]

/-- What frame.Next answers. -/
def nextV (s : List UInt8) (k : Nat) : List UInt8 × Nat × Int :=
  if s.length < k then ([], 0, 1)
  else if (s.drop k).length < 8 then ([], 0, 5)
  else if 16384 < numB (s.drop k) then ([], 0, 4)
  else if (s.drop k).length - 8 < numB (s.drop k) then ([], 0, 5)
  else if sumN (((s.drop k).drop 8).take (numB (s.drop k))) ≠ numB ((s.drop k).drop 4) then ([], 0, 6)
  else (((s.drop k).drop 8).take (numB (s.drop k)), k + 8 + numB (s.drop k), 0)

def NextTo (w : World) (x : List UInt8 × Nat × Int) (e : Ending) (w' : World) : Prop :=
  e = .returned (.tuple #[.string (bs x.1), .int .i64 (x.2.1 : Int), .int .i64 x.2.2]) ∧ Below w.heap.size w w'
theorem next_mk {w w' : World} {x y : List UInt8 × Nat × Int} {e : Ending} (h : y = x) (he : e = .returned (.tuple #[.string (bs y.1), .int .i64 (y.2.1 : Int), .int .i64 y.2.2])) (hb : Below w.heap.size w w') : NextTo w x e w' := by
  subst h; exact ⟨he, hb⟩

set_option maxRecDepth 100000 in
set_option maxHeartbeats 1000000 in
theorem FrNext_any (s : List UInt8) (hs : s.length ≤ 140737488355328) (k : Nat) (hk : k ≤ 140737488355328) (w : World) : Calls Tryz.prog 132 #[.string (bs s), .int .i64 (k : Int)] w (NextTo w (nextV s k)) := by
  have hz : ((bs s).size : Int) = (s.length : Int) := by rw [bs_size]
  have k0 : ¬ (k : Int) < 0 := by omega
  by_cases c1 : s.length < k
  · have hv : ([], 0, 1) = nextV s k := by unfold nextV; rw [if_pos c1]
    have HV := Lib.hid hv
    clear hv
    have c1' : ((bs s).size : Int) < (k : Int) := by rw [hz]; omega
    go_enter Tryz.func132, Tryz.ntmps132
    go_wp2
    exact bodyPost_ret (v := .tuple #[.string (bs []), .int .i64 ((0 : Nat) : Int), .int .i64 1]) (by simp [results, Tryz.results132, go_sem]; rfl) rfl (next_mk HV.out rfl (Below.refl _ _))
  · have c1' : ¬ ((bs s).size : Int) < (k : Int) := by rw [hz]; omega
    have kz : k ≤ (bs s).size := by rw [bs_size]; omega
    have hex : (bs s).extract k (bs s).size = bs (s.drop k) := by rw [bs_extract, bs_size]; rw [List.take_of_length_le (by simp)]
    obtain ⟨r, hr⟩ : ∃ r, s.drop k = r := ⟨_, rfl⟩
    have hrl : r.length ≤ 140737488355328 := by rw [← hr]; simp; omega
    have hrz : ((bs r).size : Int) = (r.length : Int) := by rw [bs_size]
    have hvv : nextV s k = if r.length < 8 then ([], 0, 5)
      else if 16384 < numB r then ([], 0, 4)
      else if r.length - 8 < numB r then ([], 0, 5)
      else if sumN ((r.drop 8).take (numB r)) ≠ numB (r.drop 4) then ([], 0, 6)
      else ((r.drop 8).take (numB r), k + 8 + numB r, 0) := by unfold nextV; rw [if_neg c1, hr]
    rw [hr] at hex
    have HX := Lib.hid hex
    have hzk : (((bs s).size - k : Nat) : Int) = (r.length : Int) := by rw [bs_size, ← hr]; simp
    have HVV := Lib.hid hvv
    clear hex hvv hr
    by_cases c2 : r.length < 8
    · have c2' : (r.length : Int) < 8 := by omega
      have hv : ([], 0, 5) = nextV s k := by rw [HVV.out, if_pos c2]
      have HV := Lib.hid hv
      clear hv
      go_enter Tryz.func132, Tryz.ntmps132
      go_upto_region 3 with fail
      go_wp2
      rw [HX.out]
      go_wp2
      exact bodyPost_ret (v := .tuple #[.string (bs []), .int .i64 ((0 : Nat) : Int), .int .i64 5]) (by simp [results, Tryz.results132, go_sem]; rfl) rfl (next_mk HV.out rfl (Below.refl _ _))
    · have c2' : ¬ (r.length : Int) < 8 := by omega
      have hnum := fun W => FrNumber_all r (by omega) W
      have hnum4 := fun W => FrNumber_all (r.drop 4) (by simp; omega) W
      have hn := numB_lt r
      have hn4 := numB_lt (r.drop 4)
      obtain ⟨n, hN⟩ : ∃ n, numB r = n := ⟨_, rfl⟩
      obtain ⟨n4, hN4⟩ : ∃ n, numB (r.drop 4) = n := ⟨_, rfl⟩
      rw [hN] at hnum hn
      rw [hN4] at hnum4 hn4
      have HN := Lib.hid hnum
      have HN4 := Lib.hid hnum4
      have hvv : nextV s k = if 16384 < n then ([], 0, 4)
        else if r.length - 8 < n then ([], 0, 5)
        else if sumN ((r.drop 8).take n) ≠ n4 then ([], 0, 6)
        else ((r.drop 8).take n, k + 8 + n, 0) := by rw [HVV.out, if_neg c2, hN, hN4]
      clear HVV hN hN4 hnum hnum4
      have HVV := Lib.hid hvv
      clear hvv
      by_cases c3 : 16384 < n
      · have c3' : (16384 : Int) < (n : Int) := by omega
        have hv : ([], 0, 4) = nextV s k := by rw [HVV.out, if_pos c3]
        have HV := Lib.hid hv
        clear hv
        go_enter Tryz.func132, Tryz.ntmps132
        go_upto_region 3 with fail
        go_wp2_with fail
        rw [HX.out]
        with_reducible refine (HN.out _).mono ?_
        rintro _ w1 ⟨rfl, rfl⟩
        go_wp2
        exact bodyPost_ret (v := .tuple #[.string (bs []), .int .i64 ((0 : Nat) : Int), .int .i64 4]) (by simp [results, Tryz.results132, go_sem]; rfl) rfl (next_mk HV.out rfl (Below.refl _ _))
      · have c3' : ¬ (16384 : Int) < (n : Int) := by omega
        by_cases c4 : r.length - 8 < n
        · have c4' : (r.length : Int) - 8 < (n : Int) := by omega
          have hv : ([], 0, 5) = nextV s k := by rw [HVV.out, if_neg c3, if_pos c4]
          have HV := Lib.hid hv
          clear hv
          go_enter Tryz.func132, Tryz.ntmps132
          go_upto_region 3 with fail
          go_wp2_with fail
          rw [HX.out]
          with_reducible refine (HN.out _).mono ?_
          rintro _ w1 ⟨rfl, rfl⟩
          go_wp2
          exact bodyPost_ret (v := .tuple #[.string (bs []), .int .i64 ((0 : Nat) : Int), .int .i64 5]) (by simp [results, Tryz.results132, go_sem]; rfl) rfl (next_mk HV.out rfl (Below.refl _ _))
        · have c4' : ¬ (r.length : Int) - 8 < (n : Int) := by omega
          have q1 : 8 + n ≤ (bs r).size := by rw [bs_size]; omega
          have q2 : 4 ≤ (bs r).size := by rw [bs_size]; omega
          have q3 : (4 : Int) ≤ (r.length : Int) := by omega
          have hex2 : (bs r).extract 8 (8 + n) = bs ((r.drop 8).take n) := by rw [bs_extract, show 8 + n - 8 = n by omega]
          have hex3 : (bs r).extract 4 (bs r).size = bs (r.drop 4) := by rw [bs_extract, bs_size]; rw [List.take_of_length_le (by simp)]
          have HX2 := Lib.hid hex2
          have hnx : ∀ W, Calls Tryz.prog 167 #[.string ((bs r).extract 4 (bs r).size)] W fun e w' => e = .returned (.int .u32 (n4 : Int)) ∧ w' = W := by
            rw [hex3]; exact HN4.out
          have HNX := Lib.hid hnx
          clear HN4 hnx
          have hsum := fun W => FrSum_any ((r.drop 8).take n) (by simp; omega) W
          rw [sumN_eq] at hsum
          have hsl := sumN_lt ((r.drop 8).take n)
          clear hex2 hex3
          obtain ⟨y, hy⟩ : ∃ y, (r.drop 8).take n = y := ⟨_, rfl⟩
          rw [hy] at hsum HX2 HVV hsl
          obtain ⟨m, hm⟩ : ∃ m, sumN y = m := ⟨_, rfl⟩
          rw [hm] at hsum HVV hsl
          have HS := Lib.hid hsum
          clear hy hm hsum
          have kn : (k : Int) + 8 + (n : Int) = ((k + 8 + n : Nat) : Int) := by omega
          have HKN := Lib.hid kn
          clear kn
          by_cases c5 : m = n4
          · subst c5
            have hv : (y, k + 8 + n, 0) = nextV s k := by rw [HVV.out, if_neg c3, if_neg c4, if_neg (by simp)]
            have HV := Lib.hid hv
            clear hv
            go_enter Tryz.func132, Tryz.ntmps132
            go_upto_region 3 with fail
            go_wp2_with fail
            rw [HX.out]
            with_reducible refine (HN.out _).mono ?_
            rintro _ w1 ⟨rfl, rfl⟩
            go_wp2
            rw [HX2.out]
            go_region_held3 (fun _ => True) (trivial) (first | (go_at_call 168; refine (HS.out _).mono ?_; rintro _ w2 ⟨rfl, hb2⟩) | (go_at_call 167; with_reducible refine (HNX.out _).mono ?_; rintro _ w3 ⟨rfl, rfl⟩))
            go_wp2
            exact bodyPost_ret (v := .tuple #[.string (bs y), .int .i64 ((k + 8 + n : Nat) : Int), .int .i64 0]) (by simp [results, Tryz.results132, go_sem]) rfl (next_mk HV.out rfl (below_trans (show Below w1.heap.size w1 w1.drew from (Below.refl _ _).drew) hb2))
          · have c5' : ¬ (m : Int) = (n4 : Int) := by omega
            have hv : ([], 0, 6) = nextV s k := by rw [HVV.out, if_neg c3, if_neg c4, if_pos c5]
            have HV := Lib.hid hv
            clear hv
            go_enter Tryz.func132, Tryz.ntmps132
            go_upto_region 3 with fail
            go_wp2_with fail
            rw [HX.out]
            with_reducible refine (HN.out _).mono ?_
            rintro _ w1 ⟨rfl, rfl⟩
            go_wp2
            rw [HX2.out]
            go_region_held3 (fun _ => True) (trivial) (first | (go_at_call 168; refine (HS.out _).mono ?_; rintro _ w2 ⟨rfl, hb2⟩) | (go_at_call 167; with_reducible refine (HNX.out _).mono ?_; rintro _ w3 ⟨rfl, rfl⟩))
            go_wp2
            exact bodyPost_ret (v := .tuple #[.string (bs []), .int .i64 ((0 : Nat) : Int), .int .i64 6]) (by simp [results, Tryz.results132, go_sem]; rfl) rfl (next_mk HV.out rfl (below_trans (show Below w1.heap.size w1 w1.drew from (Below.refl _ _).drew) hb2))
end Go.Proofs.YtcpaaleogmiamaaGreatDoor
namespace Go.Proofs.YtcpaaleogmiamaaGreatDoor
open Go.RowKit

theorem frameB_len (y : List UInt8) : (frameB y).length = 8 + y.length := by simp only [frameB, List.length_append, fourB_len]; omega
theorem nextV_frame (A y B : List UInt8) (hy : y.length ≤ 16384) : nextV (A ++ (frameB y ++ B)) A.length = (y, A.length + (frameB y).length, 0) := by
  have hd : (A ++ (frameB y ++ B)).drop A.length = frameB y ++ B := by simp
  have hn : numB (frameB y ++ B) = y.length := by rw [frameB, List.append_assoc]; exact num_four (by omega) _
  have h4 : (frameB y ++ B).drop 4 = fourB (sumN y) ++ (y ++ B) := by simp [frameB, fourB]
  have h8 : (frameB y ++ B).drop 8 = y ++ B := by simp [frameB, fourB]
  have hl := frameB_len y
  have hn4 : numB (fourB (sumN y) ++ (y ++ B)) = sumN y := num_four (sumN_lt y) _
  unfold nextV
  rw [if_neg (by simp), hd, if_neg (by rw [List.length_append]; omega), hn, if_neg (by omega), if_neg (by rw [List.length_append]; omega), h8, h4, hn4]
  have ht : (y ++ B).take y.length = y := by simp
  rw [ht, if_neg (by simp)]
  simp only [Prod.mk.injEq, true_and, and_true]
  omega
theorem nextV_torn (A y : List UInt8) (g : Nat) (hg : g < (frameB y).length) (hy : y.length ≤ 16384) : (nextV (A ++ (frameB y).take g) A.length).2.2 ≠ 0 := by
  have hd : (A ++ (frameB y).take g).drop A.length = (frameB y).take g := by simp
  have hl := frameB_len y
  have hgl : ((frameB y).take g).length = g := by rw [List.length_take]; omega
  unfold nextV
  rw [if_neg (by simp), hd, hgl]
  by_cases h8 : g < 8
  · rw [if_pos h8]; decide
  · rw [if_neg h8]
    have hn : numB ((frameB y).take g) = y.length := by
      obtain ⟨j, rfl⟩ : ∃ j, g = j + 4 := ⟨g - 4, by omega⟩
      have : (frameB y).take (j + 4) = fourB y.length ++ (fourB (sumN y) ++ y).take j := by simp [frameB, fourB]
      rw [this]
      exact num_four (by omega) _
    rw [hn, if_neg (by omega), if_pos (by omega)]
    decide
theorem nextV_end (A : List UInt8) : (nextV A A.length).2.2 ≠ 0 := by
  unfold nextV
  rw [if_neg (by omega), if_pos (by simp)]
  decide

theorem wp_scope_back {P : Program} {a : Act} {w : World} {Q : Exit → Act → World → Prop} {c X : Code} (l : Nat) (J : Act → World → Prop) (μ : Act → World → Nat) (hf : findLabel c l = some (Code.skip.seq X))
    (hc : ∀ Q', X.wp P Q' a w → c.wp P Q' a w) (h0 : J a w)
    (pass : ∀ a w, J a w → X.wp P (Exit.jump l (fun a' w' => J a' w' ∧ μ a' w' < μ a w) Q) a w) : (Code.scope c).wp P Q a w :=
  wp_scope_jumps l J μ hf (hc _ (Code.wp_mono (fun e a' w' h => by
    cases e with
    | goto l' => exact ⟨h.1, h.2.1⟩
    | _ => exact h) (pass a w h0))) (fun a w hJ => wp_seq (wp_skip (by simpa [Exit.then] using pass a w hJ)))

/-- The same, where more is done ahead of the label. -/
theorem wp_scope_back2 {P : Program} {a : Act} {w : World} {Q : Exit → Act → World → Prop} {c X : Code} (l : Nat) (J : Act → World → Prop) (μ : Act → World → Nat) (a1 : Act) (w1 : World) (hf : findLabel c l = some (Code.skip.seq X))
    (hc : ∀ Q', X.wp P Q' a1 w1 → c.wp P Q' a w) (h0 : J a1 w1)
    (pass : ∀ a w, J a w → X.wp P (Exit.jump l (fun a' w' => J a' w' ∧ μ a' w' < μ a w) Q) a w) : (Code.scope c).wp P Q a w :=
  wp_scope_jumps l J μ hf (hc _ (Code.wp_mono (fun e a' w' h => by
    cases e with
    | goto l' => exact ⟨h.1, h.2.1⟩
    | _ => exact h) (pass a1 w1 h0))) (fun a w hJ => wp_seq (wp_skip (by simpa [Exit.then] using pass a w hJ)))

theorem nextV_lt {s : List UInt8} {k : Nat} {y : List UInt8} {n : Nat} (h : nextV s k = (y, n, 0)) : k + 8 ≤ n ∧ n ≤ s.length ∧ y.length ≤ s.length := by
  unfold nextV at h
  split at h
  · simp at h
  · split at h
    · simp at h
    · split at h
      · simp at h
      · split at h
        · simp at h
        · split at h
          · simp at h
          · simp only [Prod.mk.injEq, and_true] at h
            obtain ⟨rfl, rfl⟩ := h
            rename_i h1 h2 h3 h4 h5
            simp only [List.length_drop, List.length_take] at *
            omega
theorem nextV_len {s : List UInt8} {k : Nat} {y : List UInt8} {n : Nat} (h : nextV s k = (y, n, 0)) : n = k + 8 + y.length := by
  unfold nextV at h
  split at h
  · simp at h
  · split at h
    · simp at h
    · split at h
      · simp at h
      · split at h
        · simp at h
        · split at h
          · simp at h
          · simp only [Prod.mk.injEq, and_true] at h
            obtain ⟨rfl, rfl⟩ := h
            rename_i h1 h2 h3 h4 h5
            simp only [List.length_drop, List.length_take] at *
            omega
end Go.Proofs.YtcpaaleogmiamaaGreatDoor
namespace Go.Proofs.YtcpaaleogmiamaaGreatDoor
open Go.RowKit Go.Lib

/-- A text's bytes. -/
def encX (t : List UInt8) : List UInt8 := itoa t.length ++ 58 :: t

def bTxt (most : Nat) (s : List UInt8) : Option (List UInt8 × List UInt8) :=
  if (cut s [58]).2.2 = true then
    match atoiAll (cut s [58]).1 with
    | .ok n => if itoa n = (cut s [58]).1 ∧ 0 ≤ n ∧ n ≤ (most : Int) ∧ n ≤ ((cut s [58]).2.1.length : Int) then some ((cut s [58]).2.1.take n.toNat, (cut s [58]).2.1.drop n.toNat) else none
    | _ => none
  else none

theorem itoa_no_colon (n : Int) : (58 : UInt8) ∉ itoa n := by
  intro h
  rcases itoa_mem h with h | h
  · exact absurd h (by decide)
  · exact absurd h (by decide)

theorem bTxt_iff {most : Nat} (hm : most ≤ 1000) (s t r : List UInt8) : bTxt most s = some (t, r) ↔ t.length ≤ most ∧ s = encX t ++ r := by
  constructor
  · intro h
    unfold bTxt at h
    split at h
    · rename_i h1
      split at h
      · rename_i n hn
        split at h
        · rename_i hc
          obtain ⟨h2, h3, h4, h5⟩ := hc
          simp only [Option.some.injEq, Prod.mk.injEq] at h
          obtain ⟨rfl, rfl⟩ := h
          have hl : ((cut s [58]).2.1.take n.toNat).length = n.toNat := by rw [List.length_take]; omega
          refine ⟨by rw [hl]; omega, ?_⟩
          have e1 := cut_split h1
          have e2 : ((n.toNat : Nat) : Int) = n := by omega
          unfold encX
          rw [hl, e2, h2, List.append_assoc, List.cons_append, List.take_append_drop]
          exact e1
        · cases h
      · cases h
    · cases h
  · rintro ⟨hl, rfl⟩
    have hs : encX t ++ r = itoa t.length ++ 58 :: (t ++ r) := by simp [encX]
    have hc := cut_hit (r := t ++ r) (itoa_no_colon t.length)
    rw [← hs] at hc
    unfold bTxt
    rw [hc, if_pos rfl]
    simp only
    rw [atoi_itoa ⟨by omega, by omega⟩]
    simp only [List.length_append]
    rw [if_pos (by refine ⟨?_, ?_, ?_, ?_⟩ <;> first | trivial | omega | (simp; omega))]
    simp

def rdT (most : Nat) (st : RS) : List UInt8 × RS :=
  if st.2 = true then ([], st) else match bTxt most st.1 with | some (t, r) => (t, (r, false)) | none => ([], (st.1, true))

theorem rdT_bad {most : Nat} {st : RS} (h : st.2 = true) : rdT most st = ([], st) := by rw [rdT, if_pos h]

theorem rdT_sound {most : Nat} (hm : most ≤ 1000) {st : RS} (h : (rdT most st).2.2 = false) : st.2 = false ∧ (rdT most st).1.length ≤ most ∧ st.1 = encX (rdT most st).1 ++ (rdT most st).2.1 := by
  unfold rdT at h ⊢
  split at h
  · rename_i hb; rw [hb] at h; cases h
  · rename_i hb
    rw [if_neg hb]
    cases hx : bTxt most st.1 with
    | none => simp [hx] at h
    | some q =>
      obtain ⟨t, r⟩ := q
      obtain ⟨h1, h2⟩ := (bTxt_iff hm _ _ _).1 hx
      exact ⟨by simpa using hb, h1, h2⟩

theorem rdT_enc {most : Nat} (hm : most ≤ 1000) {t : List UInt8} (h : t.length ≤ most) (r : List UInt8) : rdT most (encX t ++ r, false) = (t, (r, false)) := by
  unfold rdT
  rw [if_neg (by simp), (bTxt_iff hm _ _ _).2 ⟨h, rfl⟩]

theorem encX_pos (t : List UInt8) : 1 ≤ (encX t).length := by simp [encX]; omega

theorem rdT_lt {most : Nat} (hm : most ≤ 1000) {st : RS} (h : st.2 = false) : fuel (rdT most st).2 < fuel st := by
  cases hx : bTxt most st.1 with
  | none =>
    have : rdT most st = ([], (st.1, true)) := by unfold rdT; rw [if_neg (by simp [h]), hx]
    rw [this]
    simp [fuel, h]
  | some q =>
    obtain ⟨t, r⟩ := q
    have e : rdT most st = (t, (r, false)) := by unfold rdT; rw [if_neg (by simp [h]), hx]
    obtain ⟨h1, h2⟩ := (bTxt_iff hm _ _ _).1 hx
    rw [e]
    have := encX_pos t
    simp only [fuel, h, Bool.false_eq_true, if_false]
    rw [h2, List.length_append]
    omega

theorem rdT_le {most : Nat} (hm : most ≤ 1000) (st : RS) : fuel (rdT most st).2 ≤ fuel st := by
  cases h : st.2 with
  | true => rw [rdT_bad h]; exact Nat.le_refl _
  | false => exact Nat.le_of_lt (rdT_lt hm h)
theorem rdT_len {most : Nat} (hm : most ≤ 1000) (st : RS) : (rdT most st).1.length ≤ most := by
  unfold rdT
  split
  · exact Nat.zero_le _
  · cases hx : bTxt most st.1 with
    | none => exact Nat.zero_le _
    | some q => exact ((bTxt_iff hm _ _ _).1 hx).1
end Go.Proofs.YtcpaaleogmiamaaGreatDoor
