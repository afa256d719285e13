/- The walk of frame.Sum. -/
/- The walks of frame.four, number, Put. -/
import Derived.Test.YtcpaaleogmiamaaGreatDoorMs11
import Derived.Laws.IdiomStrings
import Derived.Lib.EndianBits
import Derived.Laws.BitsAllLaws
namespace Go.Proofs.YtcpaaleogmiamaaGreatDoor
open Go.RowKit

/-- A bit of a text's check. -/
def crcS (y : Int) : Int := bits BinOp.xor IntKind.u32 (y / 2) (bits BinOp.and IntKind.u32 3988292384 (-bits BinOp.and IntKind.u32 y 1 % 4294967296))
def crcN : Nat → Int → Int
  | 0, y => y
  | n + 1, y => crcS (crcN n y)
def crcB (x : Int) (c : UInt8) : Int := crcN 8 (bits BinOp.xor IntKind.u32 x (c.toNat : Int))
def crcP (s : List UInt8) : Int := s.foldl crcB 4294967295

def sumB (s : List UInt8) : Int := bits BinOp.xor IntKind.u32 IntKind.u32.max (crcP s)

theorem bytes_row (s : List UInt8) (cap k : Nat) (hk : k < s.length) : (bytesRow (bs s) cap)[k]? = some (.int .u8 (s[k].toNat : Int)) := by
  unfold bytesRow
  have h1 : (bs s).data = s.toArray := rfl
  rw [h1, Array.getElem?_append_left (by simpa using hk)]
  simp [hk]

set_option maxRecDepth 100000 in
set_option maxHeartbeats 1000000 in
theorem FrSum_any (s : List UInt8) (hs : s.length ≤ 140737488355328) (w : World) : Calls Tryz.prog 168 #[.string (bs s)] w fun e w' => e = .returned (.int .u32 (sumB s)) ∧ Below w.heap.size w w' := by
  have hcv := run_bytes_of_string (P := Tryz.prog) w 9 210 5 (bs s) (by kernel_rfl) (by kernel_rfl) (by kernel_rfl)
  go_enter Tryz.func168, Tryz.ntmps168
  go_upto_region 2 with fail
  go_wp2
  obtain ⟨wc, hwc⟩ : ∃ wc, wc = (w.alloc (.cells (bytesRow (bs s) (grownCap w (bs s).size 0 5)) 5 ((bytesRow (bs s) (grownCap w (bs s).size 0 5)).size, (bytesRow (bs s) (grownCap w (bs s).size 0 5)).size + 1))).drew := ⟨_, rfl⟩
  rw [← hwc]
  have hcell : ∀ k (hk : k < s.length), wc.cell? ⟨w.heap.size, k, none⟩ = some (.int .u8 ((s[k]).toNat : Int)) := by
    intro k hk
    rw [hwc]
    exact cells_of (show (w.alloc (.cells (bytesRow (bs s) (grownCap w (bs s).size 0 5)) 5 ((bytesRow (bs s) (grownCap w (bs s).size 0 5)).size, (bytesRow (bs s) (grownCap w (bs s).size 0 5)).size + 1))).heap[w.heap.size]? = _ from heap_alloc_new w _) k _ (bytes_row s _ k hk)
  have hbel : Below w.heap.size w wc := by rw [hwc]; exact (below_alloc w _).drew
  have HC := Lib.hid hcell
  have HB := Lib.hid hbel
  have hsz := bs_size s
  clear hwc hcell hbel hcv
  go_loopg [3, 9] s.length (fun gk r i wr => ∃ (k : Nat), k ≤ s.length ∧ gk = s.length - k ∧ i = .int .i64 k ∧ r = .int .u32 (crcP (s.take k)) ∧ wr = wc)
  case atStart => exact ⟨0, Nat.zero_le _, rfl, rfl, rfl, rfl⟩
  case round =>
    obtain ⟨k, hk, rfl, rfl, rfl, rfl⟩ := hrel
    by_cases hlt : k < s.length
    · have i1 : (k : Int) < (s.length : Int) := by omega
      have i0 : (0 : Int) ≤ (k : Int) := by omega
      have i2 : (k : Int) < ((bs s).size : Int) := by rw [hsz]; omega
      have hc := HC.out k hlt
      have htk : crcP (s.take (k + 1)) = crcN 8 (bits BinOp.xor IntKind.u32 (crcP (s.take k)) ((s[k]).toNat : Int)) := by
        unfold crcP
        rw [List.take_succ_eq_append_getElem hlt, List.foldl_append]
        rfl
      have HT := Lib.hid htk
      clear htk
      generalize s[k] = c at *
      generalize crcP (s.take k) = x at *
      have hcw : IntKind.u32.wrap (c.toNat : Int) = (c.toNat : Int) := IntWalk.u32_in _ (by have := c.toNat_lt; omega)
      go_upto_region 6 with fail
      go_wp2
      generalize bits BinOp.xor IntKind.u32 x (c.toNat : Int) = x0 at *
      go_loopg [3, 17] 8 (fun gk r i wy => ∃ (j : Nat), j ≤ 8 ∧ gk = 8 - j ∧ i = .int .i64 j ∧ r = .int .u32 (crcN j x0) ∧ wy = wr)
      case atStart => exact ⟨0, Nat.zero_le _, rfl, rfl, rfl, rfl⟩
      case round =>
        obtain ⟨j, hj, rfl, rfl, rfl, rfl⟩ := hrel
        by_cases hj8 : j < 8
        · have i18 : (j : Int) < 8 := by omega
          have hst : crcN (j + 1) x0 = crcS (crcN j x0) := rfl
          have HST := Lib.hid hst
          clear hst
          generalize crcN j x0 = y at *
          go_wp2
          go_roundg (8 - (j + 1))
          case measure => omega
          case rel => exact ⟨j + 1, by omega, rfl, by go_num, by rw [HST.out]; rfl, rfl⟩
        · have hj9 : j = 8 := by omega
          subst hj9
          go_wp2
          go_roundg (s.length - (k + 1))
          case measure => omega
          case rel => exact ⟨k + 1, by omega, rfl, by go_num, by rw [HT.out], rfl⟩
    · have hkl : k = s.length := by omega
      subst hkl
      rw [List.take_length]
      go_wp2
      go_ret
      exact ⟨rfl, HB.out⟩
end Go.Proofs.YtcpaaleogmiamaaGreatDoor
namespace Go.Proofs.YtcpaaleogmiamaaGreatDoor
open Go.RowKit

def fourB (n : Nat) : List UInt8 := [UInt8.ofNat (n % 256), UInt8.ofNat (n / 256 % 256), UInt8.ofNat (n / 65536 % 256), UInt8.ofNat (n / 16777216 % 256)]
def numB : List UInt8 → Nat
  | a :: b :: c :: d :: _ => a.toNat + 256 * b.toNat + 65536 * c.toNat + 16777216 * d.toNat
  | _ => 0
theorem num_four {n : Nat} (h : n < 4294967296) (r : List UInt8) : numB (fourB n ++ r) = n := by
  simp only [fourB, List.cons_append, List.nil_append, numB, UInt8.toNat_ofNat']
  omega
theorem fourB_len (n : Nat) : (fourB n).length = 4 := rfl

theorem sumB_range (s : List UInt8) : 0 ≤ sumB s ∧ sumB s < 4294967296 := by
  have h : ∀ z, sumB s = IntKind.u32.wrap z → 0 ≤ sumB s ∧ sumB s < 4294967296 := by
    intro z e
    rw [e, IntKind.wrap_u32]
    omega
  exact h _ rfl
/-- A text's check. -/
def sumN (s : List UInt8) : Nat := (sumB s).toNat
theorem sumN_eq (s : List UInt8) : sumB s = (sumN s : Int) := by have := sumB_range s; unfold sumN; omega
theorem sumN_lt (s : List UInt8) : sumN s < 4294967296 := by have := sumB_range s; unfold sumN; omega

set_option maxRecDepth 100000 in
theorem FrFour_any (n : Nat) (w : World) : Calls Tryz.prog 177 #[.int .u32 (n : Int)] w fun e w' => e = .returned (.string (bs (fourB n))) ∧ Below w.heap.size w w' := by
  have hcell : ∀ T, ∀ j (hj : j < (fourB n).length), (w.alloc (.cells #[.int .u8 ((n : Int) % 256), .int .u8 ((n : Int) / 256 % 256), .int .u8 ((n : Int) / 65536 % 256), .int .u8 ((n : Int) / 16777216 % 256)] T)).cell? ((⟨w.heap.size, 0, none⟩ : Addr).add j) = some (.int .u8 ((fourB n)[j].toNat : Int)) := by
    intro T j hj
    rw [Addr.add_lit, Nat.zero_add, cell_of_row _ _ _ _ _ _ (heap_alloc_new w _)]
    have hj4 : j < 4 := hj
    match j, hj4 with
    | 0, _ => simp [fourB]
    | 1, _ => simp [fourB]
    | 2, _ => simp [fourB]
    | 3, _ => simp [fourB]
  have hcv := fun T => run_convert_bytes_back (P := Tryz.prog) (w.alloc (.cells #[.int .u8 ((n : Int) % 256), .int .u8 ((n : Int) / 256 % 256), .int .u8 ((n : Int) / 65536 % 256), .int .u8 ((n : Int) / 16777216 % 256)] T)) 210 9 5 ⟨w.heap.size, 0, none⟩ 4 (fourB n) (by kernel_rfl) (by kernel_rfl) (by kernel_rfl) (hcell T)
  have hcv' : ∀ T, (convert 210 9 (.slice (some ⟨w.heap.size, 0, none⟩) 4 4)).run Tryz.prog (w.alloc (.cells #[.int .u8 ((n : Int) % 256), .int .u8 ((n : Int) / 256 % 256), .int .u8 ((n : Int) / 65536 % 256), .int .u8 ((n : Int) / 16777216 % 256)] T)) = .ok (.string (bs (fourB n))) (w.alloc (.cells #[.int .u8 ((n : Int) % 256), .int .u8 ((n : Int) / 256 % 256), .int .u8 ((n : Int) / 65536 % 256), .int .u8 ((n : Int) / 16777216 % 256)] T)) := hcv
  clear hcv hcell
  go_enter Tryz.func177, Tryz.ntmps177
  go_wp2
  refine wp_loop_rounds 5 ?_
  rw [rounds_succ]
  go_wp2
  rw [rounds_succ]
  go_wp2
  rw [rounds_succ]
  go_wp2
  rw [rounds_succ]
  go_wp2
  rw [rounds_succ]
  go_wp2
  go_ret
  exact ⟨rfl, below_alloc _ _⟩

theorem or_all (a b c d : UInt8) : bits BinOp.or IntKind.u32 (bits BinOp.or IntKind.u32 (bits BinOp.or IntKind.u32 (bits BinOp.or IntKind.u32 0 ((a.toNat : Int) % 4294967296)) ((b.toNat : Int) % 4294967296 * 256 % 4294967296)) ((c.toNat : Int) % 4294967296 * 65536 % 4294967296)) ((d.toNat : Int) % 4294967296 * 16777216 % 4294967296) = ((a.toNat + 256 * b.toNat + 65536 * c.toNat + 16777216 * d.toNat : Nat) : Int) := by
  have ha := a.toNat_lt
  have hb := b.toNat_lt
  have hc := c.toNat_lt
  have hd := d.toNat_lt
  have ha' : a.toNat < 256 := ha
  have hb' : b.toNat < 256 := hb
  have hc' : c.toNat < 256 := hc
  have hd' : d.toNat < 256 := hd
  have e1 : bits BinOp.or IntKind.u32 0 ((a.toNat : Int) % 4294967296) = (a.toNat : Int) := by
    rw [show (a.toNat : Int) % 4294967296 = (a.toNat : Int) by omega]
    have := u32_or_nat 0 a.toNat (by omega) (by omega)
    simpa using this
  have e2 : bits BinOp.or IntKind.u32 (a.toNat : Int) ((b.toNat : Int) * 256) = (a.toNat : Int) + (b.toNat : Int) * 256 := u32_or8 _ _ (by omega) (by omega) (by omega) (by omega) (by omega)
  have e3 : bits BinOp.or IntKind.u32 ((a.toNat : Int) + (b.toNat : Int) * 256) ((c.toNat : Int) * 65536) = (a.toNat : Int) + (b.toNat : Int) * 256 + (c.toNat : Int) * 65536 := u32_or16 _ _ (by omega) (by omega) (by omega) (by omega) (by omega)
  have e4 : bits BinOp.or IntKind.u32 ((a.toNat : Int) + (b.toNat : Int) * 256 + (c.toNat : Int) * 65536) ((d.toNat : Int) * 16777216) = (a.toNat : Int) + (b.toNat : Int) * 256 + (c.toNat : Int) * 65536 + (d.toNat : Int) * 16777216 := u32_or24 _ _ (by omega) (by omega) (by omega) (by omega) (by omega)
  rw [e1, show (b.toNat : Int) % 4294967296 * 256 % 4294967296 = (b.toNat : Int) * 256 by omega, e2]
  rw [show (c.toNat : Int) % 4294967296 * 65536 % 4294967296 = (c.toNat : Int) * 65536 by omega, e3]
  rw [show (d.toNat : Int) % 4294967296 * 16777216 % 4294967296 = (d.toNat : Int) * 16777216 by omega, e4]
  omega

set_option maxRecDepth 100000 in
theorem FrNumber_any (a b c d : UInt8) (r : List UInt8) (w : World) : Calls Tryz.prog 167 #[.string (bs (a :: b :: c :: d :: r))] w fun e w' => e = .returned (.int .u32 (numB (a :: b :: c :: d :: r) : Int)) ∧ w' = w := by
  have e0 : ∀ h, (bs (a :: b :: c :: d :: r))[0]'h = a := fun h => by rw [bs_get]; rfl
  have e1 : ∀ h, (bs (a :: b :: c :: d :: r))[1]'h = b := fun h => by rw [bs_get]; rfl
  have e2 : ∀ h, (bs (a :: b :: c :: d :: r))[2]'h = c := fun h => by rw [bs_get]; rfl
  have e3 : ∀ h, (bs (a :: b :: c :: d :: r))[3]'h = d := fun h => by rw [bs_get]; rfl
  have hz : (bs (a :: b :: c :: d :: r)).size = r.length + 4 := by rw [bs_size]; simp
  have s0 : (0 : Int) < ((bs (a :: b :: c :: d :: r)).size : Int) := by rw [hz]; omega
  have s1 : (1 : Int) < ((bs (a :: b :: c :: d :: r)).size : Int) := by rw [hz]; omega
  have s2 : (2 : Int) < ((bs (a :: b :: c :: d :: r)).size : Int) := by rw [hz]; omega
  have s3 : (3 : Int) < ((bs (a :: b :: c :: d :: r)).size : Int) := by rw [hz]; omega
  have HO := Lib.hid (or_all a b c d)
  go_enter Tryz.func167, Tryz.ntmps167
  go_wp2
  refine wp_loop_rounds 5 ?_
  rw [rounds_succ]
  go_wp2
  rw [rounds_succ]
  go_wp2
  rw [rounds_succ]
  go_wp2
  rw [rounds_succ]
  go_wp2
  rw [rounds_succ]
  go_wp2
  go_ret
  exact ⟨congrArg (fun z => Ending.returned (.int .u32 z)) HO.out, rfl⟩

/-- A text's frame. -/
def frameB (s : List UInt8) : List UInt8 := fourB s.length ++ (fourB (sumN s) ++ s)

set_option maxRecDepth 100000 in
set_option maxHeartbeats 1000000 in
theorem FrPut_any (s : List UInt8) (hs : s.length ≤ 16384) (w : World) : Calls Tryz.prog 137 #[.string (bs s)] w fun e w' => e = .returned (.tuple #[.string (bs (frameB s)), .int .i64 0]) ∧ Below w.heap.size w w' := by
  have hsz := bs_size s
  have e0 : ¬ (16384 : Int) < ((bs s).size : Int) := by rw [hsz]; omega
  have ew : IntKind.u32.wrap ((bs s).size : Int) = (s.length : Int) := by rw [hsz]; exact IntWalk.u32_in _ (by omega)
  have ew' : IntKind.u32.wrap (s.length : Int) = (s.length : Int) := IntWalk.u32_in _ (by omega)
  have HF1 := Lib.hid (fun W => FrFour_any s.length W)
  have HF2 := Lib.hid (fun W => FrFour_any (sumN s) W)
  have hsm := fun W => FrSum_any s (by omega) W
  rw [sumN_eq] at hsm
  have HS := Lib.hid hsm
  have z1 : (bs (fourB s.length)).size = 4 := by rw [bs_size]; rfl
  have z2 : (bs (fourB (sumN s))).size = 4 := by rw [bs_size]; rfl
  have k1 : ¬ 9223372036854775807 < 4 + 4 + s.length := by omega
  have k2 : ¬ 9223372036854775807 < 8 + s.length := by omega
  have hcat : bs (fourB s.length) ++ bs (fourB (sumN s)) ++ bs s = bs (frameB s) := by rw [bs_append, bs_append]; simp [frameB]
  have HC := Lib.hid hcat
  clear hsm hcat
  generalize sumN s = m at *
  go_enter Tryz.func137, Tryz.ntmps137
  go_wp2_with (first
    | (go_at_call 177; with_reducible refine (HF1.out _).mono ?_; rintro _ w1 ⟨rfl, hb1⟩)
    | (go_at_call 168; refine (HS.out _).mono ?_; rintro _ w2 ⟨rfl, hb2⟩)
    | (go_at_call 177; with_reducible refine (HF2.out _).mono ?_; rintro _ w3 ⟨rfl, hb3⟩))
  refine bodyPost_ret (v := .tuple #[.string (bs (frameB s)), .int .i64 0]) ?_ rfl ⟨rfl, below_trans hb1 (below_trans hb2 hb3)⟩
  rw [← HC.out]
  simp [results, Tryz.results137, go_sem]
end Go.Proofs.YtcpaaleogmiamaaGreatDoor
