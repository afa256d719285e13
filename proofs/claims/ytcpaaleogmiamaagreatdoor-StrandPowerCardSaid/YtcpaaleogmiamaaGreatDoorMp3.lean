/- Strings as lists of bytes; what the library's variables hold; the library's functions that bead calls. -/
/- Plain Lean, no program in sight: readers' states, and what reads on as long as there is more. -/
import Derived.Test.YtcpaaleogmiamaaGreatDoorBase
import Derived.Test.YtcpaaleogmiamaaGreatDoorMp1
import Derived.Test.YtcpaaleogmiamaaGreatDoorBeadN
import Derived.Lib.AppendIntMem
namespace Go.Proofs.YtcpaaleogmiamaaGreatDoor
open Go.RowKit

def bs (l : List UInt8) : ByteArray := ⟨l.toArray⟩
theorem bs_data (l : List UInt8) : (bs l).data.toList = l := by simp [bs]
theorem bs_toList (l : List UInt8) : (bs l).toList = l := by rw [Lib.toList_data, bs_data]
theorem bs_size (l : List UInt8) : (bs l).size = l.length := by rw [Lib.size_eq, bs_data]
theorem bs_of (s : ByteArray) : bs s.data.toList = s := Lib.mk_data s
theorem bs_append (a b : List UInt8) : bs a ++ bs b = bs (a ++ b) := by
  apply ByteArray.ext
  rw [ByteArray.data_append]
  simp [bs]
theorem bs_inj {a b : List UInt8} (h : bs a = bs b) : a = b := by
  have := congrArg (fun s : ByteArray => s.data.toList) h
  simpa [bs_data] using this
theorem bs_extract (l : List UInt8) (a b : Nat) : (bs l).extract a b = bs ((l.drop a).take (b - a)) := by rw [Lib.extract_eq, bs_data]; rfl

theorem bs_get (l : List UInt8) (i : Nat) (h : i < (bs l).size) : (bs l)[i] = l[i]'(by rw [bs_size] at h; exact h) := by
  rw [Lib.getD_at, bs_data, List.getD_eq_getElem?_getD, List.getElem?_eq_getElem (by rw [bs_size] at h; exact h)]; rfl

/-- What the call reads of the library's variables. -/
structure Env (w : World) : Prop where
  tab : Lib.TabIs Tryz.prog w "internal/strconv.uint64pow10" .u64 Lib.pow10Tab
  syn : ∃ ev, w.cell? ⟨Tryz.laysAtoi_ren.g 15, 0, none⟩ = some ev ∧ (ev = .nilIface ∨ ∃ te pe, ev = .iface te pe)
  rng : ∃ ev, w.cell? ⟨Tryz.laysAtoi_ren.g 16, 0, none⟩ = some ev ∧ (ev = .nilIface ∨ ∃ te pe, ev = .iface te pe)

theorem Env.below {w w' : World} (h : Env w) (hb : Below w.heap.size w w') : Env w' := by
  refine ⟨Lib.tabBelow_of_tabIs h.tab w' hb, ?_, ?_⟩
  · obtain ⟨ev, h1, h2⟩ := h.syn
    exact ⟨ev, below_some hb h1 (World.block_lt_of_cell? w _ h1), h2⟩
  · obtain ⟨ev, h1, h2⟩ := h.rng
    exact ⟨ev, below_some hb h1 (World.block_lt_of_cell? w _ h1), h2⟩

theorem Itoa_any {n : Int} (h : I64 n) (w : World) (hE : Env w) : Calls Tryz.prog 147 #[.int .i64 n] w fun e w' => e = .returned (.string (bs (Lib.itoa n))) ∧ Below w.heap.size w w' :=
  (Any.strconv_Itoa Tryz.laysItoa n h.1 h.2 w hE.tab).mono fun _e _w' ⟨he, k, os, hw⟩ => ⟨he, hw ▸ Lib.below_grow _ w (Nat.le_refl _) k os⟩

theorem Atoi_any (d : List UInt8) (hl : d.length ≤ 281474976710656) (w : World) (hE : Env w) :
    Calls Tryz.prog 190 #[.string (bs d)] w fun e w' => ∃ v ev, e = .returned (.tuple #[.int .i64 v, ev]) ∧ Below w.heap.size w w' ∧ I64 v ∧
      ((Lib.atoiAll d = .ok v ∧ ev = .nilIface) ∨ ((∀ n, Lib.atoiAll d ≠ .ok n) ∧ ∃ te p, ev = .iface te p)) := by
  have hs : (bs d).size ≤ 281474976710656 := by rw [bs_size]; exact hl
  cases h : Lib.atoiAll d
  · rename_i v
    refine (Any.strconv_Atoi_ok Tryz.laysAtoi (bs d) (by omega) v (by rw [bs_data]; exact h) w).mono ?_
    rintro e w' ⟨he, hw⟩
    refine ⟨v, .nilIface, he, ?_, Lib.atoiAll_bounds h, .inl ⟨rfl, rfl⟩⟩
    rcases hw with rfl | ⟨t, rfl⟩
    · exact Below.refl _ _
    · exact Lib.bytesWorld_below _ _ _
  · obtain ⟨ev, h1, h2⟩ := hE.syn
    refine (Any.strconv_Atoi_syntax Tryz.laysAtoi (bs d) hs (by rw [bs_data]; exact h) ev w h1 h2).mono ?_
    rintro e w' ⟨N, he, -, -, hb⟩
    exact ⟨_, _, he, hb, ⟨by omega, by omega⟩, .inr ⟨fun n hn => (by cases hn), _, _, rfl⟩⟩
  · obtain ⟨ev, h1, h2⟩ := hE.rng
    refine (Any.strconv_Atoi_range Tryz.laysAtoi (bs d) hs (by rw [bs_data]; exact h) ev w h1 h2).mono ?_
    rintro e w' ⟨N, he, -, -, hb⟩
    exact ⟨_, _, he, hb, Lib.atoiSat_bounds _, .inr ⟨fun n hn => (by cases hn), _, _, rfl⟩⟩

theorem CutPrefix_any (s : List UInt8) (c : UInt8) (w : World) :
    Calls Tryz.prog 188 #[.string (bs s), .string (bs [c])] w fun e w' => e = .returned (.tuple #[.string (bs (Lib.trimPrefix s [c])), .bool (Lib.hasPrefix s [c])]) ∧ w' = w := by
  have := Any.strings_CutPrefix Tryz.laysCutPrefix (bs s) (bs [c]) w
  rw [bs_data, bs_data] at this
  exact this

set_option maxHeartbeats 1000000 in
theorem slCut_one (s : ByteArray) (c : UInt8) (hs : s.size ≤ 281474976710656) (w : World) :
    Calls Tryz.prog 247 #[.string s, .string ⟨#[c]⟩] w fun e w' => e = .returned (.tuple #[.string ⟨(Lib.cut s.data.toList [c]).1.toArray⟩, .string ⟨(Lib.cut s.data.toList [c]).2.1.toArray⟩, .bool (Lib.cut s.data.toList [c]).2.2]) ∧ ∃ n, w' = w.drewN n := by
  have hI := fun w => Any.stringslite_Index_one Tryz.laysIndex s c w
  rw [← Lib.index_one s.data.toList c] at hI
  rcases Lib.indexB_cases s ⟨#[c]⟩ with hix | ⟨i, hix, hroom⟩
  · obtain ⟨e1, e2, e3⟩ := Lib.cutB_miss s ⟨#[c]⟩ hix
    rw [show Lib.index s.data.toList [c] = -1 from hix] at hI
    have E1 := Lib.hid (And.intro e1 (And.intro e2 e3))
    have HI := Lib.hid hI
    clear hI e1 e2 e3 hix
    go_enter Tryz.func247, Tryz.ntmps247
    go_wp2_with (first | (go_at_call 271; refine (HI.out _).mono ?_; rintro e w1 ⟨rfl, rfl⟩))
    refine bodyPost_ret (v := .tuple #[.string s, .string ⟨#[]⟩, .bool false]) (by simp [results, Tryz.results247, go_sem]) rfl ⟨?_, 0, rfl⟩
    obtain ⟨e1, e2, e3⟩ := E1.out
    rw [show (⟨(Lib.cut s.data.toList [c]).1.toArray⟩ : ByteArray) = s from e1, show (⟨(Lib.cut s.data.toList [c]).2.1.toArray⟩ : ByteArray) = ByteArray.empty from e2, show (Lib.cut s.data.toList [c]).2.2 = false from e3]
    rfl
  · obtain ⟨e1, e2, e3⟩ := Lib.cutB_hit s ⟨#[c]⟩ i hix
    rw [show Lib.index s.data.toList [c] = (i : Int) from hix] at hI
    have hz : (⟨#[c]⟩ : ByteArray).size = 1 := rfl
    rw [hz] at hroom e2
    have E1 := Lib.hid (And.intro e1 (And.intro e2 e3))
    have HI := Lib.hid hI
    clear hI e1 e2 e3 hix
    have c1 : (0 : Int) ≤ ↑i := by omega
    have c2 : (↑i : Int) ≤ ↑s.size := by omega
    have c3 : (0 : Int) ≤ ↑i + 1 := by omega
    have c4 : (↑i + 1 : Int) ≤ ↑s.size := by omega
    have c5 : IntKind.i64.wrap (↑i + 1) = ↑i + 1 := IntWalk.i64_in _ (by omega)
    go_enter Tryz.func247, Tryz.ntmps247
    go_wp2_with (first | (go_at_call 271; refine (HI.out _).mono ?_; rintro e w1 ⟨rfl, rfl⟩))
    go_region
    go_wp2
    refine bodyPost_ret (v := .tuple #[.string (s.extract 0 i), .string (s.extract (i + 1) s.size), .bool true]) (by simp [results, Tryz.results247, go_sem]) rfl ⟨?_, 1, rfl⟩
    obtain ⟨e1, e2, e3⟩ := E1.out
    rw [show (⟨(Lib.cut s.data.toList [c]).1.toArray⟩ : ByteArray) = _ from e1, show (⟨(Lib.cut s.data.toList [c]).2.1.toArray⟩ : ByteArray) = _ from e2, show (Lib.cut s.data.toList [c]).2.2 = true from e3]

theorem Cut_any (s : List UInt8) (c : UInt8) (hs : s.length ≤ 281474976710656) (w : World) :
    Calls Tryz.prog 208 #[.string (bs s), .string (bs [c])] w fun e w' => e = .returned (.tuple #[.string (bs (Lib.cut s [c]).1), .string (bs (Lib.cut s [c]).2.1), .bool (Lib.cut s [c]).2.2]) ∧ Below w.heap.size w w' := by
  have hC := fun w => slCut_one (bs s) c (by rw [bs_size]; exact hs) w
  rw [bs_data] at hC
  have HC := Lib.hid hC
  clear hC
  generalize Lib.cut s [c] = p at *
  obtain ⟨p1, p2, p3⟩ := p
  go_enter Tryz.func208, Tryz.ntmps208
  go_wp2_with (first | (go_at_call 247; refine (HC.out _).mono ?_; rintro e w1 ⟨rfl, n, rfl⟩))
  exact bodyPost_ret (v := .tuple #[.string (bs p1), .string (bs p2), .bool p3]) (by simp [results, Tryz.results208, go_sem, bs]) rfl ⟨rfl, below_drewN (Below.refl _ _) n⟩
end Go.Proofs.YtcpaaleogmiamaaGreatDoor
namespace Go.Proofs.YtcpaaleogmiamaaGreatDoor
open Go.Lib

/-- A reader: the bytes that are left, and whether something went wrong. -/
abbrev RS := List UInt8 × Bool

def rdI (st : RS) : Int × RS :=
  if st.2 = true then (0, st) else match bInt st.1 with | some p => (p.1, (p.2, false)) | none => (0, (st.1, true))
def rdS (c : UInt8) (st : RS) : RS := if st.2 = true then st else if st.1.head? = some c then (st.1.tail, false) else (st.1, true)
def rdM (st : RS) : Bool := !st.2 && !st.1.isEmpty && decide (st.1.head? ≠ some 101)
def rdD (st : RS) : Bool := !st.2 && st.1.isEmpty
def fuel (st : RS) : Nat := if st.2 = true then 0 else st.1.length + 1

theorem rdI_bad {st : RS} (h : st.2 = true) : rdI st = (0, st) := by rw [rdI, if_pos h]
theorem rdS_bad {c : UInt8} {st : RS} (h : st.2 = true) : rdS c st = st := by rw [rdS, if_pos h]

theorem rdI_cases (st : RS) : (st.2 = true ∧ rdI st = (0, st)) ∨ (st.2 = false ∧ bInt st.1 = none ∧ rdI st = (0, (st.1, true))) ∨
    (st.2 = false ∧ ∃ n r, bInt st.1 = some (n, r) ∧ rdI st = (n, (r, false))) := by
  cases h : st.2
  · right
    cases hb : bInt st.1 with
    | none => left; exact ⟨rfl, rfl, by simp [rdI, h, hb]⟩
    | some p => right; exact ⟨rfl, p.1, p.2, rfl, by simp [rdI, h, hb]⟩
  · left; exact ⟨rfl, by simp [rdI, h]⟩

theorem rdI_sound {st : RS} (h : (rdI st).2.2 = false) : st.2 = false ∧ I64 (rdI st).1 ∧ st.1 = encI (rdI st).1 ++ (rdI st).2.1 := by
  rcases rdI_cases st with ⟨h1, h2⟩ | ⟨h1, -, h2⟩ | ⟨h1, n, r, h3, h2⟩
  · rw [h2] at h; simp only at h; rw [h1] at h; cases h
  · rw [h2] at h; cases h
  · rw [h2]; exact ⟨h1, (bInt_iff _ _ _).1 h3⟩

theorem rdI_enc {n : Int} (h : I64 n) (r : List UInt8) : rdI (encI n ++ r, false) = (n, (r, false)) := by
  have := (bInt_iff (encI n ++ r) n r).2 ⟨h, rfl⟩
  simp [rdI, this]

theorem i64_zero : I64 0 := ⟨by decide, by decide⟩

theorem rdI_I64 (st : RS) : I64 (rdI st).1 := by
  rcases rdI_cases st with ⟨h1, h2⟩ | ⟨h1, -, h2⟩ | ⟨h1, n, r, h3, h2⟩
  · rw [h2]; exact i64_zero
  · rw [h2]; exact i64_zero
  · rw [h2]; exact ((bInt_iff _ _ _).1 h3).1

theorem rdS_sound {c : UInt8} {st : RS} (h : (rdS c st).2 = false) : st.2 = false ∧ st.1 = c :: (rdS c st).1 := by
  unfold rdS at h ⊢
  split at h
  · rename_i h1; rw [h1] at h; cases h
  · rename_i h1
    split at h
    · rename_i h2
      rw [if_neg h1, if_pos h2]
      exact ⟨by simpa using h1, cons_of_head h2⟩
    · cases h

theorem rdS_enc (c : UInt8) (r : List UInt8) : rdS c (c :: r, false) = (r, false) := by simp [rdS]

theorem rdI_le (st : RS) : fuel (rdI st).2 ≤ fuel st := by
  rcases rdI_cases st with ⟨h1, h2⟩ | ⟨h1, -, h2⟩ | ⟨h1, n, r, h3, h2⟩
  · rw [h2]; exact Nat.le_refl _
  · rw [h2]; simp [fuel]
  · rw [h2]
    have := ((bInt_iff _ _ _).1 h3).2
    have hl := congrArg List.length this
    simp only [List.length_append] at hl
    simp only [fuel, h1, Bool.false_eq_true, if_false]
    omega

theorem rdS_lt {c : UInt8} {st : RS} (h : st.2 = false) : fuel (rdS c st) < fuel st := by
  unfold rdS
  rw [if_neg (by rw [h]; decide)]
  split
  · rename_i h2
    have := congrArg List.length (cons_of_head h2)
    simp only [List.length_cons] at this
    simp only [fuel, h, Bool.false_eq_true, if_false]; omega
  · simp [fuel, h]

theorem rdS_le (c : UInt8) (st : RS) : fuel (rdS c st) ≤ fuel st := by
  cases h : st.2
  · exact Nat.le_of_lt (rdS_lt h)
  · rw [rdS_bad h]; exact Nat.le_refl _

theorem rdM_ok {st : RS} (h : rdM st = true) : st.2 = false := by
  unfold rdM at h
  cases h1 : st.2
  · rfl
  · rw [h1] at h; simp at h

/-! ### As long as there is more -/

def many {α : Type} (step : RS → α × RS) (ok : Nat → Bool) : Nat → RS → List α → List α × RS
  | 0, st, acc => (acc, st)
  | f + 1, st, acc => if rdM st = true ∧ ok acc.length = true then many step ok f (step st).2 (acc ++ [(step st).1]) else (acc, st)

theorem many_stop {α : Type} {step : RS → α × RS} {ok : Nat → Bool} {st : RS} {acc : List α} (f : Nat) (h : rdM st = false ∨ ok acc.length = false) :
    many step ok f st acc = (acc, st) := by
  cases f with
  | zero => rfl
  | succ f =>
    rw [many, if_neg]
    rintro ⟨h1, h2⟩
    rcases h with h | h
    · rw [h1] at h; cases h
    · rw [h2] at h; cases h

theorem many_go {α : Type} {step : RS → α × RS} {ok : Nat → Bool} {st : RS} {acc : List α} {f : Nat} (hd : ∀ st : RS, st.2 = false → fuel (step st).2 < fuel st)
    (h : rdM st = true) (ho : ok acc.length = true) (hf : fuel st ≤ f) :
    ∃ f', many step ok f st acc = many step ok f' (step st).2 (acc ++ [(step st).1]) ∧ fuel (step st).2 ≤ f' := by
  have h1 := rdM_ok h
  have h2 := hd st h1
  cases f with
  | zero => omega
  | succ f => exact ⟨f, by rw [many, if_pos ⟨h, ho⟩], by omega⟩

theorem many_sound {α : Type} {step : RS → α × RS} {ok : Nat → Bool} {enc : α → List UInt8} (hs : ∀ st : RS, (step st).2.2 = false → st.2 = false ∧ st.1 = enc (step st).1 ++ (step st).2.1) :
    ∀ (f : Nat) (st : RS) (acc : List α), (many step ok f st acc).2.2 = false → st.2 = false ∧ ∃ l, (many step ok f st acc).1 = acc ++ l ∧ st.1 = l.flatMap enc ++ (many step ok f st acc).2.1
  | 0, st, acc, h => ⟨h, [], by simp [many], by simp [many]⟩
  | f + 1, st, acc, h => by
    by_cases hc : rdM st = true ∧ ok acc.length = true
    · rw [many, if_pos hc] at h ⊢
      obtain ⟨h1, l, h2, h3⟩ := many_sound hs f _ _ h
      obtain ⟨h4, h5⟩ := hs st h1
      refine ⟨h4, (step st).1 :: l, by rw [h2]; simp, ?_⟩
      rw [List.flatMap_cons, List.append_assoc, ← h3]
      exact h5
    · rw [many, if_neg hc] at h ⊢
      exact ⟨h, [], by simp, by simp⟩

theorem many_enc {α : Type} {step : RS → α × RS} {ok : Nat → Bool} {enc : α → List UInt8} {P : α → Prop} (he : ∀ a r, P a → step (enc a ++ r, false) = (a, (r, false)) ∧ rdM (enc a ++ r, false) = true)
    (r : List UInt8) : ∀ (l : List α) (f : Nat) (acc : List α), (∀ a ∈ l, P a) → l.length ≤ f → (∀ i, i < acc.length + l.length → ok i = true) →
    many step ok f (l.flatMap enc ++ 101 :: r, false) acc = (acc ++ l, (101 :: r, false))
  | [], f, acc, _, _, _ => by
    rw [List.append_nil]
    exact many_stop f (.inl rfl)
  | a :: l, 0, acc, _, hf, _ => by simp at hf
  | a :: l, f + 1, acc, hp, hf, ho => by
    obtain ⟨e1, e2⟩ := he a (l.flatMap enc ++ 101 :: r) (hp a (by simp))
    have e3 : (a :: l).flatMap enc ++ 101 :: r = enc a ++ (l.flatMap enc ++ 101 :: r) := by simp
    rw [e3, many, if_pos ⟨e2, ho _ (by simp)⟩, e1]
    simp only
    rw [many_enc he r l f (acc ++ [a]) (fun x hx => hp x (by simp [hx])) (by simpa using hf) (fun i hi => ho i (by simp at hi ⊢; omega))]
    simp

theorem many_le {α : Type} {step : RS → α × RS} {ok : Nat → Bool} (hd : ∀ st : RS, st.2 = false → fuel (step st).2 < fuel st) :
    ∀ (f : Nat) (st : RS) (acc : List α), fuel (many step ok f st acc).2 ≤ fuel st
  | 0, st, acc => Nat.le_refl _
  | f + 1, st, acc => by
    rw [many]
    split
    · rename_i h
      have h1 := hd st (rdM_ok h.1)
      have h2 := many_le (ok := ok) hd f (step st).2 (acc ++ [(step st).1])
      exact Nat.le_trans h2 (Nat.le_of_lt h1)
    · exact Nat.le_refl _

theorem flat_le {α : Type} (enc : α → List UInt8) (h : ∀ a, 1 ≤ (enc a).length) : ∀ l : List α, l.length ≤ (l.flatMap enc).length
  | [] => Nat.le_refl _
  | a :: l => by
    have := flat_le enc h l
    have := h a
    simp only [List.flatMap_cons, List.length_append, List.length_cons]
    omega

end Go.Proofs.YtcpaaleogmiamaaGreatDoor
