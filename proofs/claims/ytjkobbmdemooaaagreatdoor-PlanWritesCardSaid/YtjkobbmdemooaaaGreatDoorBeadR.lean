/- The walks of the reference's numbers and of its reader. -/
import Derived.Test.YtjkobbmdemooaaaGreatDoorBeadW
namespace Go.Proofs.YtjkobbmdemooaaaGreatDoor
open Go.RowKit

theorem piece_fin : ∀ i : Fin 10, (([48, 49, 50, 51, 52, 53, 54, 55, 56, 57] : List UInt8).drop i.val).take 1 = [UInt8.ofNat (48 + i.val)] := by decide +kernel
theorem piece {i : Nat} (h : i < 10) : (⟨#[48, 49, 50, 51, 52, 53, 54, 55, 56, 57]⟩ : ByteArray).extract i (i + 1) = bs [UInt8.ofNat (48 + i)] := by
  rw [Lib.extract_eq]
  have e : i + 1 - i = 1 := by omega
  rw [e]
  exact congrArg bs (piece_fin ⟨i, h⟩)

set_option maxRecDepth 100000 in
set_option maxHeartbeats 1000000 in
theorem digits_any : ∀ (u : Nat), u < 18446744073709551616 → ∀ w, Calls Tryz.prog 86 #[.int .u64 u] w fun e w' => e = .returned (.string (bs (Lib.decDigits u))) ∧ Below w.heap.size w w' := by
  intro u
  induction u using Nat.strongRecOn with
  | _ u ih =>
    intro hu w
    by_cases h : u < 10
    · have h1 : (u : Int) < 10 := by omega
      have h2 : IntKind.u64.wrap ((u : Int) + 1) = (u : Int) + 1 := IntWalk.u64_in _ (by omega)
      have h3 : (0 : Int) ≤ (u : Int) := by omega
      have h4 : ((u : Int) + 1) ≤ 10 := by omega
      have h5 := piece h
      have h6 : ((u : Int) + 1).toNat = u + 1 := by omega
      have e := Lib.decDigits_one h
      have HE := Lib.hid e
      have H5 := Lib.hid h5
      clear ih e h5
      go_enter Tryz.func86, Tryz.ntmps86
      go_wp2
      go_ret
      refine ⟨?_, Below.refl _ _⟩
      rw [HE.out]
      exact congrArg (fun s => Ending.returned (.string s)) H5.out
    · obtain ⟨q, hq⟩ : ∃ q, u / 10 = q := ⟨_, rfl⟩
      obtain ⟨d, hd⟩ : ∃ d, u % 10 = d := ⟨_, rfl⟩
      have IH := Lib.hid (ih q (by omega) (by omega))
      have h1 : ¬ (u : Int) < 10 := by omega
      have h2 : IntKind.u64.wrap ((u : Int) / 10) = (q : Int) := by
        have e : (u : Int) / 10 = (q : Int) := by omega
        rw [e]; exact IntWalk.u64_in _ (by omega)
      have h3 : (u : Int).tmod 10 = (d : Int) := by rw [Int.tmod_eq_emod_of_nonneg (by omega)]; omega
      have h4 : IntKind.u64.wrap ((d : Int) + 1) = (d : Int) + 1 := IntWalk.u64_in _ (by omega)
      have h5 : (0 : Int) ≤ (d : Int) := by omega
      have h6 : (d : Int) + 1 ≤ 10 := by omega
      have h7 : ((d : Int) + 1).toNat = d + 1 := by omega
      have h8 : (0 : Int) ≤ (d : Int) + 1 := by omega
      have h9 : (d : Int) ≤ (d : Int) + 1 := by omega
      have hd10 : d < 10 := by omega
      have hd11 : (d : Int) < 10 := by omega
      have hl := digits_len (u := q) (by omega)
      obtain ⟨pc, hpc⟩ : ∃ pc, pc = [UInt8.ofNat (48 + d)] := ⟨_, rfl⟩
      have hp := piece (i := d) (by omega)
      have hb := digits_big h
      rw [hq, hd] at hb
      rw [← hpc] at hb hp
      have HE := Lib.hid hb
      have k1 : ¬ 9223372036854775807 < (bs (Lib.decDigits q)).size + (bs pc).size := by rw [bs_size, bs_size, hpc]; simp; omega
      clear ih hb hq hd h hpc
      go_enter Tryz.func86, Tryz.ntmps86
      go_wp2
      go_region_held3 (fun _ => True) (trivial) (first | (go_at_call 86; refine (IH.out _).mono ?_; rintro e w1 ⟨rfl, hb1⟩))
      go_wp2
      go_ret
      refine ⟨?_, below_trans (show Below w.heap.size w w.drew from (Below.refl _ _).drew) hb1⟩
      rw [HE.out, ← bs_append]
      rfl

set_option maxHeartbeats 1000000 in
theorem R1Int_any {n : Int} (hn : I64 n) (w : World) : Calls Tryz.prog 56 #[.int .i64 n] w fun e w' => e = .returned (.string (bs (encI n))) ∧ Below w.heap.size w w' := by
  obtain ⟨h0, h1⟩ := hn
  by_cases h : n < 0
  · obtain ⟨u, hu⟩ : ∃ u : Nat, n.natAbs = u := ⟨_, rfl⟩
    have C := Lib.hid (digits_any u (by omega))
    have g1 : IntKind.i64.wrap (n + 1) = n + 1 := IntWalk.i64_in _ (by omega)
    have g2 : IntKind.i64.wrap (-(n + 1)) = -(n + 1) := IntWalk.i64_in _ (by omega)
    have g3 : IntKind.u64.wrap (-(n + 1)) = -(n + 1) := IntWalk.u64_in _ (by omega)
    have g4 : IntKind.u64.wrap (-(n + 1) + 1) = (u : Int) := by
      have e : -(n + 1) + 1 = (u : Int) := by omega
      rw [e]; exact IntWalk.u64_in _ (by omega)
    have hl := digits_len (u := u) (by omega)
    have k1 : ¬ 9223372036854775807 < 2 + (bs (Lib.decDigits u)).size := by rw [bs_size]; omega
    have k2 : ¬ 9223372036854775807 < 2 + (bs (Lib.decDigits u)).size + 1 := by rw [bs_size]; omega
    have he : encI n = [105, 45] ++ Lib.decDigits u ++ [101] := by rw [encI, Lib.itoa, if_pos h, hu]; rfl
    have HE := Lib.hid he
    clear he hu
    go_enter Tryz.func56, Tryz.ntmps56
    go_wp2_with (first | (go_at_call 86; refine (C.out _).mono ?_; rintro e w1 ⟨rfl, hb1⟩))
    go_ret
    refine ⟨?_, hb1⟩
    rw [HE.out, ← bs_append, ← bs_append]
    rfl
  · obtain ⟨u, hu⟩ : ∃ u : Nat, n.toNat = u := ⟨_, rfl⟩
    have C := Lib.hid (digits_any u (by omega))
    have g3 : IntKind.u64.wrap n = (u : Int) := by
      have e : n = (u : Int) := by omega
      rw [e]; exact IntWalk.u64_in _ (by omega)
    have hl := digits_len (u := u) (by omega)
    have k1 : ¬ 9223372036854775807 < 1 + (bs (Lib.decDigits u)).size := by rw [bs_size]; omega
    have k2 : ¬ 9223372036854775807 < 1 + (bs (Lib.decDigits u)).size + 1 := by rw [bs_size]; omega
    have he : encI n = [105] ++ Lib.decDigits u ++ [101] := by rw [encI, Lib.itoa, if_neg h, hu]; rfl
    have HE := Lib.hid he
    clear he hu
    go_enter Tryz.func56, Tryz.ntmps56
    go_wp2_with (first | (go_at_call 86; refine (C.out _).mono ?_; rintro e w1 ⟨rfl, hb1⟩))
    go_ret
    refine ⟨?_, hb1⟩
    rw [HE.out, ← bs_append, ← bs_append]
    rfl
end Go.Proofs.YtjkobbmdemooaaaGreatDoor
