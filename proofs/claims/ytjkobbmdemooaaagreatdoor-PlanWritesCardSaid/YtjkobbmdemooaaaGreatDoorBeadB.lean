/- Strings as lists of bytes; what the library's variables hold; the library's functions that bead calls. -/
import Derived.Test.YtjkobbmdemooaaaGreatDoorBase
import Derived.Test.YtjkobbmdemooaaaGreatDoorShelfBead
import Derived.Test.YtjkobbmdemooaaaGreatDoorBeadN
import Derived.Lib.AppendIntMem
namespace Go.Proofs.YtjkobbmdemooaaaGreatDoor
open Go.RowKit

def bs (l : List UInt8) : ByteArray := ⟨l.toArray⟩
theorem bs_data (l : List UInt8) : (bs l).data.toList = l := by simp [bs]
theorem bs_toList (l : List UInt8) : (bs l).toList = l := by rw [Lib.toList_data, bs_data]
theorem bs_size (l : List UInt8) : (bs l).size = l.length := by rw [Lib.size_eq, bs_data]
theorem bs_of (s : ByteArray) : bs s.data.toList = s := Lib.mk_data s
theorem bs_append (a b : List UInt8) : bs a ++ bs b = bs (a ++ b) := by
  apply ByteArray.ext
  rw [ByteArray.data_append]
  simp [bs]
theorem bs_inj {a b : List UInt8} (h : bs a = bs b) : a = b := by
  have := congrArg (fun s : ByteArray => s.data.toList) h
  simpa [bs_data] using this
theorem bs_extract (l : List UInt8) (a b : Nat) : (bs l).extract a b = bs ((l.drop a).take (b - a)) := by rw [Lib.extract_eq, bs_data]; rfl

theorem bs_get (l : List UInt8) (i : Nat) (h : i < (bs l).size) : (bs l)[i] = l[i]'(by rw [bs_size] at h; exact h) := by
  rw [Lib.getD_at, bs_data, List.getD_eq_getElem?_getD, List.getElem?_eq_getElem (by rw [bs_size] at h; exact h)]; rfl

/-- What the call reads of the library's variables. -/
structure Env (w : World) : Prop where
  tab : Lib.TabIs Tryz.prog w "internal/strconv.uint64pow10" .u64 Lib.pow10Tab
  syn : ∃ ev, w.cell? ⟨Tryz.laysAtoi_ren.g 15, 0, none⟩ = some ev ∧ (ev = .nilIface ∨ ∃ te pe, ev = .iface te pe)
  rng : ∃ ev, w.cell? ⟨Tryz.laysAtoi_ren.g 16, 0, none⟩ = some ev ∧ (ev = .nilIface ∨ ∃ te pe, ev = .iface te pe)

theorem Env.below {w w' : World} (h : Env w) (hb : Below w.heap.size w w') : Env w' := by
  refine ⟨Lib.tabBelow_of_tabIs h.tab w' hb, ?_, ?_⟩
  · obtain ⟨ev, h1, h2⟩ := h.syn
    exact ⟨ev, below_some hb h1 (World.block_lt_of_cell? w _ h1), h2⟩
  · obtain ⟨ev, h1, h2⟩ := h.rng
    exact ⟨ev, below_some hb h1 (World.block_lt_of_cell? w _ h1), h2⟩

theorem Itoa_any {n : Int} (h : I64 n) (w : World) (hE : Env w) : Calls Tryz.prog 85 #[.int .i64 n] w fun e w' => e = .returned (.string (bs (Lib.itoa n))) ∧ Below w.heap.size w w' :=
  (Any.strconv_Itoa Tryz.laysItoa n h.1 h.2 w hE.tab).mono fun e w' ⟨he, k, os, hw⟩ => ⟨he, hw ▸ Lib.below_grow _ w (Nat.le_refl _) k os⟩

theorem Atoi_any (d : List UInt8) (hl : d.length ≤ 281474976710656) (w : World) (hE : Env w) :
    Calls Tryz.prog 91 #[.string (bs d)] w fun e w' => ∃ v ev, e = .returned (.tuple #[.int .i64 v, ev]) ∧ Below w.heap.size w w' ∧ I64 v ∧
      ((Lib.atoiAll d = .ok v ∧ ev = .nilIface) ∨ ((∀ n, Lib.atoiAll d ≠ .ok n) ∧ ∃ te p, ev = .iface te p)) := by
  have hs : (bs d).size ≤ 281474976710656 := by rw [bs_size]; exact hl
  cases h : Lib.atoiAll d
  · rename_i v
    refine (Any.strconv_Atoi_ok Tryz.laysAtoi (bs d) (by omega) v (by rw [bs_data]; exact h) w).mono ?_
    rintro e w' ⟨he, hw⟩
    refine ⟨v, .nilIface, he, ?_, Lib.atoiAll_bounds h, .inl ⟨rfl, rfl⟩⟩
    rcases hw with rfl | ⟨t, rfl⟩
    · exact Below.refl _ _
    · exact Lib.bytesWorld_below _ _ _
  · obtain ⟨ev, h1, h2⟩ := hE.syn
    refine (Any.strconv_Atoi_syntax Tryz.laysAtoi (bs d) hs (by rw [bs_data]; exact h) ev w h1 h2).mono ?_
    rintro e w' ⟨N, he, -, -, hb⟩
    exact ⟨_, _, he, hb, ⟨by omega, by omega⟩, .inr ⟨fun n hn => (by cases hn), _, _, rfl⟩⟩
  · obtain ⟨ev, h1, h2⟩ := hE.rng
    refine (Any.strconv_Atoi_range Tryz.laysAtoi (bs d) hs (by rw [bs_data]; exact h) ev w h1 h2).mono ?_
    rintro e w' ⟨N, he, -, -, hb⟩
    exact ⟨_, _, he, hb, Lib.atoiSat_bounds _, .inr ⟨fun n hn => (by cases hn), _, _, rfl⟩⟩

theorem CutPrefix_any (s : List UInt8) (c : UInt8) (w : World) :
    Calls Tryz.prog 90 #[.string (bs s), .string (bs [c])] w fun e w' => e = .returned (.tuple #[.string (bs (Lib.trimPrefix s [c])), .bool (Lib.hasPrefix s [c])]) ∧ w' = w := by
  have := Any.strings_CutPrefix Tryz.laysCutPrefix (bs s) (bs [c]) w
  rw [bs_data, bs_data] at this
  exact this

set_option maxHeartbeats 1000000 in
theorem slCut_one (s : ByteArray) (c : UInt8) (hs : s.size ≤ 281474976710656) (w : World) :
    Calls Tryz.prog 108 #[.string s, .string ⟨#[c]⟩] w fun e w' => e = .returned (.tuple #[.string ⟨(Lib.cut s.data.toList [c]).1.toArray⟩, .string ⟨(Lib.cut s.data.toList [c]).2.1.toArray⟩, .bool (Lib.cut s.data.toList [c]).2.2]) ∧ ∃ n, w' = w.drewN n := by
  have hI := fun w => Any.stringslite_Index_one Tryz.laysIndex s c w
  rw [← Lib.index_one s.data.toList c] at hI
  rcases Lib.indexB_cases s ⟨#[c]⟩ with hix | ⟨i, hix, hroom⟩
  · obtain ⟨e1, e2, e3⟩ := Lib.cutB_miss s ⟨#[c]⟩ hix
    rw [show Lib.index s.data.toList [c] = -1 from hix] at hI
    have E1 := Lib.hid (And.intro e1 (And.intro e2 e3))
    have HI := Lib.hid hI
    clear hI e1 e2 e3 hix
    go_enter Tryz.func108, Tryz.ntmps108
    go_wp2_with (first | (go_at_call 120; refine (HI.out _).mono ?_; rintro e w1 ⟨rfl, rfl⟩))
    refine bodyPost_ret (v := .tuple #[.string s, .string ⟨#[]⟩, .bool false]) (by simp [results, Tryz.results108, go_sem]) rfl ⟨?_, 0, rfl⟩
    obtain ⟨e1, e2, e3⟩ := E1.out
    rw [show (⟨(Lib.cut s.data.toList [c]).1.toArray⟩ : ByteArray) = s from e1, show (⟨(Lib.cut s.data.toList [c]).2.1.toArray⟩ : ByteArray) = ByteArray.empty from e2, show (Lib.cut s.data.toList [c]).2.2 = false from e3]
    rfl
  · obtain ⟨e1, e2, e3⟩ := Lib.cutB_hit s ⟨#[c]⟩ i hix
    rw [show Lib.index s.data.toList [c] = (i : Int) from hix] at hI
    have hz : (⟨#[c]⟩ : ByteArray).size = 1 := rfl
    rw [hz] at hroom e2
    have E1 := Lib.hid (And.intro e1 (And.intro e2 e3))
    have HI := Lib.hid hI
    clear hI e1 e2 e3 hix
    have c1 : (0 : Int) ≤ ↑i := by omega
    have c2 : (↑i : Int) ≤ ↑s.size := by omega
    have c3 : (0 : Int) ≤ ↑i + 1 := by omega
    have c4 : (↑i + 1 : Int) ≤ ↑s.size := by omega
    have c5 : IntKind.i64.wrap (↑i + 1) = ↑i + 1 := IntWalk.i64_in _ (by omega)
    go_enter Tryz.func108, Tryz.ntmps108
    go_wp2_with (first | (go_at_call 120; refine (HI.out _).mono ?_; rintro e w1 ⟨rfl, rfl⟩))
    go_region
    go_wp2
    refine bodyPost_ret (v := .tuple #[.string (s.extract 0 i), .string (s.extract (i + 1) s.size), .bool true]) (by simp [results, Tryz.results108, go_sem]) rfl ⟨?_, 1, rfl⟩
    obtain ⟨e1, e2, e3⟩ := E1.out
    rw [show (⟨(Lib.cut s.data.toList [c]).1.toArray⟩ : ByteArray) = _ from e1, show (⟨(Lib.cut s.data.toList [c]).2.1.toArray⟩ : ByteArray) = _ from e2, show (Lib.cut s.data.toList [c]).2.2 = true from e3]

theorem Cut_any (s : List UInt8) (c : UInt8) (hs : s.length ≤ 281474976710656) (w : World) :
    Calls Tryz.prog 89 #[.string (bs s), .string (bs [c])] w fun e w' => e = .returned (.tuple #[.string (bs (Lib.cut s [c]).1), .string (bs (Lib.cut s [c]).2.1), .bool (Lib.cut s [c]).2.2]) ∧ Below w.heap.size w w' := by
  have hC := fun w => slCut_one (bs s) c (by rw [bs_size]; exact hs) w
  rw [bs_data] at hC
  have HC := Lib.hid hC
  clear hC
  generalize Lib.cut s [c] = p at *
  obtain ⟨p1, p2, p3⟩ := p
  go_enter Tryz.func89, Tryz.ntmps89
  go_wp2_with (first | (go_at_call 108; refine (HC.out _).mono ?_; rintro e w1 ⟨rfl, n, rfl⟩))
  exact bodyPost_ret (v := .tuple #[.string (bs p1), .string (bs p2), .bool p3]) (by simp [results, Tryz.results89, go_sem, bs]) rfl ⟨rfl, below_drewN (Below.refl _ _) n⟩
end Go.Proofs.YtjkobbmdemooaaaGreatDoor
