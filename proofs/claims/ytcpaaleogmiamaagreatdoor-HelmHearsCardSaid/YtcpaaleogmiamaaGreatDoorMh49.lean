/- Openers for a row of HelmPower's acts. (Printed by gen_argh.py.) -/
/- What the row's list gives of the library's variables; a start for the witness. -/
/- What the row of HelmHears must say of the program, limb by limb. -/
import Derived.Test.YtcpaaleogmiamaaGreatDoorMh48
import Derived.Test.YtcpaaleogmiamaaGreatDoorMh42
import Derived.Test.YtcpaaleogmiamaaGreatDoorMh3
import Derived.Test.YtcpaaleogmiamaaGreatDoorRows
import Derived.Lib.LaidTab
import Derived.LaidMore
import Derived.Stop.LaidErr
import Derived.Test.YtcpaaleogmiamaaGreatDoorCards
import Derived.Test.YtcpaaleogmiamaaGreatDoorTie
import Derived.JoinedCond
namespace Go.Proofs.YtcpaaleogmiamaaGreatDoor
open Go.ChangeShapes Go.WideShapes Go.ChangeAt Go.RowKit

theorem h_int : Tryz.prog.underlying 3 = some (.int .i64) := by kernel_rfl
theorem h_Errno : Tryz.prog.underlying 27 = some (.int .i64) := by kernel_rfl
theorem h_string : Tryz.prog.underlying 9 = some .string := by kernel_rfl
theorem h_Ints : Tryz.prog.underlying 22 = some (.slice 3) := by kernel_rfl
theorem h_Recs : Tryz.prog.underlying 38 = some (.slice 84) := by kernel_rfl
theorem h_Lives : Tryz.prog.underlying 37 = some (.slice 134) := by kernel_rfl
theorem h_Seens : Tryz.prog.underlying 41 = some (.slice 357) := by kernel_rfl
theorem h_Acts : Tryz.prog.underlying 61 = some (.slice 66) := by kernel_rfl
theorem h_A3 : Tryz.prog.underlying 60 = some (.array 3 3) := by kernel_rfl
theorem hc_int : Tryz.prog.cellsOf 3 = 1 := by kernel_rfl
theorem hc_Errno : Tryz.prog.cellsOf 27 = 1 := by kernel_rfl
theorem hc_string : Tryz.prog.cellsOf 9 = 1 := by kernel_rfl
theorem hc_Ints : Tryz.prog.cellsOf 22 = 1 := by kernel_rfl
theorem hc_Recs : Tryz.prog.cellsOf 38 = 1 := by kernel_rfl
theorem hc_Lives : Tryz.prog.cellsOf 37 = 1 := by kernel_rfl
theorem hc_Seens : Tryz.prog.cellsOf 41 = 1 := by kernel_rfl
theorem hc_Part : Tryz.prog.cellsOf 36 = 3 := by kernel_rfl
theorem hc_Batch : Tryz.prog.cellsOf 40 = 6 := by kernel_rfl
theorem hc_Req : Tryz.prog.cellsOf 43 = 11 := by kernel_rfl
theorem hc_Resp : Tryz.prog.cellsOf 45 = 8 := by kernel_rfl
theorem hc_Msg : Tryz.prog.cellsOf 47 = 38 := by kernel_rfl
theorem hc_Event : Tryz.prog.cellsOf 58 = 4 := by kernel_rfl
theorem hc_Act : Tryz.prog.cellsOf 66 = 46 := by kernel_rfl
theorem hf_Part : fieldsOf Tryz.prog 36 = [(3, 0), (22, 1), (3, 2)] := by kernel_rfl
theorem hf_Batch : fieldsOf Tryz.prog 40 = [(3, 0), (3, 1), (3, 2), (3, 3), (3, 4), (38, 5)] := by kernel_rfl
theorem hf_Req : fieldsOf Tryz.prog 43 = [(3, 0), (3, 1), (3, 2), (3, 3), (3, 4), (3, 5), (3, 6), (3, 7), (9, 8), (9, 9), (38, 10)] := by kernel_rfl
theorem hf_Resp : fieldsOf Tryz.prog 45 = [(3, 0), (3, 1), (27, 2), (3, 3), (3, 4), (3, 5), (22, 6), (38, 7)] := by kernel_rfl
theorem hf_Msg : fieldsOf Tryz.prog 47 = [(3, 0), (3, 1), (3, 2), (3, 3), (3, 4), (3, 5), (3, 6), (3, 7), (36, 8), (37, 11), (40, 12), (41, 18), (43, 19), (45, 30)] := by kernel_rfl
theorem hf_Act : fieldsOf Tryz.prog 66 = [(3, 0), (47, 1), (58, 39), (3, 43), (22, 44), (9, 45)] := by kernel_rfl

section
variable {H : Type} {enc : TypeId × Value → H} {W : World}

theorem uncons {n : Nat} {cs : List Value} (h : cs.length = n + 1) : ∃ c r, cs = c :: r ∧ r.length = n := by
  cases cs with
  | nil => simp at h
  | cons c r => exact ⟨c, r, rfl, by simpa using h⟩
theorem one_int {t : TypeId} {k : IntKind} (ht : Tryz.prog.underlying t = some (.int k)) {n : Nat} {cs : List Value} {x : DataW H × List MemPlace} (h : DataW.trod enc Tryz.prog W 0 (fun _ => true) true n t cs = some x) : ∀ u ∈ cs, u.oneCell' = true := by
  obtain ⟨z, rfl, -⟩ := DataW.trod_int ht h
  intro u hu
  rw [List.mem_singleton.1 hu]; rfl
theorem one_str {t : TypeId} (ht : Tryz.prog.underlying t = some .string) {n : Nat} {cs : List Value} {x : DataW H × List MemPlace} (h : DataW.trod enc Tryz.prog W 0 (fun _ => true) true n t cs = some x) : (∀ u ∈ cs, u.oneCell' = true) ∧ ∃ s, cs = [.string s] := by
  obtain ⟨z, rfl, -⟩ := DataW.trod_string ht h
  exact ⟨fun u hu => by rw [List.mem_singleton.1 hu]; rfl, _, rfl⟩
theorem one_slice {t e : TypeId} (ht : Tryz.prog.underlying t = some (.slice e)) {n : Nat} {cs : List Value} {x : DataW H × List MemPlace} (h : DataW.trod enc Tryz.prog W 0 (fun _ => true) true n t cs = some x) : ∀ u ∈ cs, u.oneCell' = true := by
  rcases Deep.open_slice ht h with ⟨rfl, _⟩ | ⟨a, len, cap, m, n, D, Pl, rfl, _⟩
  · intro u hu
    rw [List.mem_singleton.1 hu]; rfl
  · intro u hu
    rw [List.mem_singleton.1 hu]; rfl

set_option maxRecDepth 100000 in
theorem one_Part {n : Nat} {cs : List Value} {x : DataW H × List MemPlace} (hl : cs.length = 3) (ht : DataW.trod enc Tryz.prog W 0 (fun _ => true) true n 36 cs = some x) : (∀ u ∈ cs, u.oneCell' = true) := by
  obtain ⟨n', -, hx⟩ := trod_fields hf_Part (by decide) ht
  have hl0 := hl
  obtain ⟨c0, r0, e, hl1⟩ := uncons (n := 2) hl0
  subst e
  obtain ⟨c1, r1, e, hl2⟩ := uncons (n := 1) hl1
  subst e
  obtain ⟨c2, r2, e, hl3⟩ := uncons (n := 0) hl2
  subst e
  obtain rfl := List.length_eq_zero_iff.1 hl3
  ·
    obtain ⟨y0, e0⟩ := hx 0 _ rfl
    simp only [hc_int] at e0
    have k0 := one_int h_int e0
    simp at k0
    obtain ⟨y1, e1⟩ := hx 1 _ rfl
    simp only [hc_Ints] at e1
    have k1 := one_slice h_Ints e1
    simp at k1
    obtain ⟨y2, e2⟩ := hx 2 _ rfl
    simp only [hc_int] at e2
    have k2 := one_int h_int e2
    simp at k2
    simp only [List.mem_cons, List.not_mem_nil, or_false, forall_eq_or_imp, forall_eq]
    exact ⟨k0, k1, k2⟩

set_option maxRecDepth 100000 in
theorem one_Batch {n : Nat} {cs : List Value} {x : DataW H × List MemPlace} (hl : cs.length = 6) (ht : DataW.trod enc Tryz.prog W 0 (fun _ => true) true n 40 cs = some x) : (∀ u ∈ cs, u.oneCell' = true) := by
  obtain ⟨n', -, hx⟩ := trod_fields hf_Batch (by decide) ht
  have hl0 := hl
  obtain ⟨c0, r0, e, hl1⟩ := uncons (n := 5) hl0
  subst e
  obtain ⟨c1, r1, e, hl2⟩ := uncons (n := 4) hl1
  subst e
  obtain ⟨c2, r2, e, hl3⟩ := uncons (n := 3) hl2
  subst e
  obtain ⟨c3, r3, e, hl4⟩ := uncons (n := 2) hl3
  subst e
  obtain ⟨c4, r4, e, hl5⟩ := uncons (n := 1) hl4
  subst e
  obtain ⟨c5, r5, e, hl6⟩ := uncons (n := 0) hl5
  subst e
  obtain rfl := List.length_eq_zero_iff.1 hl6
  ·
    obtain ⟨y0, e0⟩ := hx 0 _ rfl
    simp only [hc_int] at e0
    have k0 := one_int h_int e0
    simp at k0
    obtain ⟨y1, e1⟩ := hx 1 _ rfl
    simp only [hc_int] at e1
    have k1 := one_int h_int e1
    simp at k1
    obtain ⟨y2, e2⟩ := hx 2 _ rfl
    simp only [hc_int] at e2
    have k2 := one_int h_int e2
    simp at k2
    obtain ⟨y3, e3⟩ := hx 3 _ rfl
    simp only [hc_int] at e3
    have k3 := one_int h_int e3
    simp at k3
    obtain ⟨y4, e4⟩ := hx 4 _ rfl
    simp only [hc_int] at e4
    have k4 := one_int h_int e4
    simp at k4
    obtain ⟨y5, e5⟩ := hx 5 _ rfl
    simp only [hc_Recs] at e5
    have k5 := one_slice h_Recs e5
    simp at k5
    simp only [List.mem_cons, List.not_mem_nil, or_false, forall_eq_or_imp, forall_eq]
    exact ⟨k0, k1, k2, k3, k4, k5⟩

set_option maxRecDepth 100000 in
theorem one_Req {n : Nat} {cs : List Value} {x : DataW H × List MemPlace} (hl : cs.length = 11) (ht : DataW.trod enc Tryz.prog W 0 (fun _ => true) true n 43 cs = some x) : (∀ u ∈ cs, u.oneCell' = true) ∧ ∃ s, cs[8]? = some (.string s) := by
  obtain ⟨n', -, hx⟩ := trod_fields hf_Req (by decide) ht
  have hl0 := hl
  obtain ⟨c0, r0, e, hl1⟩ := uncons (n := 10) hl0
  subst e
  obtain ⟨c1, r1, e, hl2⟩ := uncons (n := 9) hl1
  subst e
  obtain ⟨c2, r2, e, hl3⟩ := uncons (n := 8) hl2
  subst e
  obtain ⟨c3, r3, e, hl4⟩ := uncons (n := 7) hl3
  subst e
  obtain ⟨c4, r4, e, hl5⟩ := uncons (n := 6) hl4
  subst e
  obtain ⟨c5, r5, e, hl6⟩ := uncons (n := 5) hl5
  subst e
  obtain ⟨c6, r6, e, hl7⟩ := uncons (n := 4) hl6
  subst e
  obtain ⟨c7, r7, e, hl8⟩ := uncons (n := 3) hl7
  subst e
  obtain ⟨c8, r8, e, hl9⟩ := uncons (n := 2) hl8
  subst e
  obtain ⟨c9, r9, e, hl10⟩ := uncons (n := 1) hl9
  subst e
  obtain ⟨c10, r10, e, hl11⟩ := uncons (n := 0) hl10
  subst e
  obtain rfl := List.length_eq_zero_iff.1 hl11
  ·
    obtain ⟨y0, e0⟩ := hx 0 _ rfl
    simp only [hc_int] at e0
    have k0 := one_int h_int e0
    simp at k0
    obtain ⟨y1, e1⟩ := hx 1 _ rfl
    simp only [hc_int] at e1
    have k1 := one_int h_int e1
    simp at k1
    obtain ⟨y2, e2⟩ := hx 2 _ rfl
    simp only [hc_int] at e2
    have k2 := one_int h_int e2
    simp at k2
    obtain ⟨y3, e3⟩ := hx 3 _ rfl
    simp only [hc_int] at e3
    have k3 := one_int h_int e3
    simp at k3
    obtain ⟨y4, e4⟩ := hx 4 _ rfl
    simp only [hc_int] at e4
    have k4 := one_int h_int e4
    simp at k4
    obtain ⟨y5, e5⟩ := hx 5 _ rfl
    simp only [hc_int] at e5
    have k5 := one_int h_int e5
    simp at k5
    obtain ⟨y6, e6⟩ := hx 6 _ rfl
    simp only [hc_int] at e6
    have k6 := one_int h_int e6
    simp at k6
    obtain ⟨y7, e7⟩ := hx 7 _ rfl
    simp only [hc_int] at e7
    have k7 := one_int h_int e7
    simp at k7
    obtain ⟨y8, e8⟩ := hx 8 _ rfl
    simp only [hc_string] at e8
    obtain ⟨k8, s8, g8⟩ := one_str h_string e8
    simp at g8
    simp at k8
    obtain ⟨y9, e9⟩ := hx 9 _ rfl
    simp only [hc_string] at e9
    obtain ⟨k9, s9, g9⟩ := one_str h_string e9
    simp at g9
    simp at k9
    obtain ⟨y10, e10⟩ := hx 10 _ rfl
    simp only [hc_Recs] at e10
    have k10 := one_slice h_Recs e10
    simp at k10
    refine ⟨?_, s8, by rw [← g8]; rfl⟩
    · simp only [List.mem_cons, List.not_mem_nil, or_false, forall_eq_or_imp, forall_eq]
      exact ⟨k0, k1, k2, k3, k4, k5, k6, k7, k8, k9, k10⟩

set_option maxRecDepth 100000 in
theorem one_Resp {n : Nat} {cs : List Value} {x : DataW H × List MemPlace} (hl : cs.length = 8) (ht : DataW.trod enc Tryz.prog W 0 (fun _ => true) true n 45 cs = some x) : (∀ u ∈ cs, u.oneCell' = true) := by
  obtain ⟨n', -, hx⟩ := trod_fields hf_Resp (by decide) ht
  have hl0 := hl
  obtain ⟨c0, r0, e, hl1⟩ := uncons (n := 7) hl0
  subst e
  obtain ⟨c1, r1, e, hl2⟩ := uncons (n := 6) hl1
  subst e
  obtain ⟨c2, r2, e, hl3⟩ := uncons (n := 5) hl2
  subst e
  obtain ⟨c3, r3, e, hl4⟩ := uncons (n := 4) hl3
  subst e
  obtain ⟨c4, r4, e, hl5⟩ := uncons (n := 3) hl4
  subst e
  obtain ⟨c5, r5, e, hl6⟩ := uncons (n := 2) hl5
  subst e
  obtain ⟨c6, r6, e, hl7⟩ := uncons (n := 1) hl6
  subst e
  obtain ⟨c7, r7, e, hl8⟩ := uncons (n := 0) hl7
  subst e
  obtain rfl := List.length_eq_zero_iff.1 hl8
  ·
    obtain ⟨y0, e0⟩ := hx 0 _ rfl
    simp only [hc_int] at e0
    have k0 := one_int h_int e0
    simp at k0
    obtain ⟨y1, e1⟩ := hx 1 _ rfl
    simp only [hc_int] at e1
    have k1 := one_int h_int e1
    simp at k1
    obtain ⟨y2, e2⟩ := hx 2 _ rfl
    simp only [hc_Errno] at e2
    have k2 := one_int h_Errno e2
    simp at k2
    obtain ⟨y3, e3⟩ := hx 3 _ rfl
    simp only [hc_int] at e3
    have k3 := one_int h_int e3
    simp at k3
    obtain ⟨y4, e4⟩ := hx 4 _ rfl
    simp only [hc_int] at e4
    have k4 := one_int h_int e4
    simp at k4
    obtain ⟨y5, e5⟩ := hx 5 _ rfl
    simp only [hc_int] at e5
    have k5 := one_int h_int e5
    simp at k5
    obtain ⟨y6, e6⟩ := hx 6 _ rfl
    simp only [hc_Ints] at e6
    have k6 := one_slice h_Ints e6
    simp at k6
    obtain ⟨y7, e7⟩ := hx 7 _ rfl
    simp only [hc_Recs] at e7
    have k7 := one_slice h_Recs e7
    simp at k7
    simp only [List.mem_cons, List.not_mem_nil, or_false, forall_eq_or_imp, forall_eq]
    exact ⟨k0, k1, k2, k3, k4, k5, k6, k7⟩

set_option maxRecDepth 100000 in
theorem one_Msg {n : Nat} {cs : List Value} {x : DataW H × List MemPlace} (hl : cs.length = 38) (ht : DataW.trod enc Tryz.prog W 0 (fun _ => true) true n 47 cs = some x) : (∀ u ∈ cs, u.oneCell' = true) ∧ ∃ s, cs[27]? = some (.string s) := by
  obtain ⟨n', -, hx⟩ := trod_fields hf_Msg (by decide) ht
  have hl0 := hl
  obtain ⟨c0, r0, e, hl1⟩ := uncons (n := 37) hl0
  subst e
  obtain ⟨c1, r1, e, hl2⟩ := uncons (n := 36) hl1
  subst e
  obtain ⟨c2, r2, e, hl3⟩ := uncons (n := 35) hl2
  subst e
  obtain ⟨c3, r3, e, hl4⟩ := uncons (n := 34) hl3
  subst e
  obtain ⟨c4, r4, e, hl5⟩ := uncons (n := 33) hl4
  subst e
  obtain ⟨c5, r5, e, hl6⟩ := uncons (n := 32) hl5
  subst e
  obtain ⟨c6, r6, e, hl7⟩ := uncons (n := 31) hl6
  subst e
  obtain ⟨c7, r7, e, hl8⟩ := uncons (n := 30) hl7
  subst e
  obtain ⟨c8, r8, e, hl9⟩ := uncons (n := 29) hl8
  subst e
  obtain ⟨c9, r9, e, hl10⟩ := uncons (n := 28) hl9
  subst e
  obtain ⟨c10, r10, e, hl11⟩ := uncons (n := 27) hl10
  subst e
  obtain ⟨c11, r11, e, hl12⟩ := uncons (n := 26) hl11
  subst e
  obtain ⟨c12, r12, e, hl13⟩ := uncons (n := 25) hl12
  subst e
  obtain ⟨c13, r13, e, hl14⟩ := uncons (n := 24) hl13
  subst e
  obtain ⟨c14, r14, e, hl15⟩ := uncons (n := 23) hl14
  subst e
  obtain ⟨c15, r15, e, hl16⟩ := uncons (n := 22) hl15
  subst e
  obtain ⟨c16, r16, e, hl17⟩ := uncons (n := 21) hl16
  subst e
  obtain ⟨c17, r17, e, hl18⟩ := uncons (n := 20) hl17
  subst e
  obtain ⟨c18, r18, e, hl19⟩ := uncons (n := 19) hl18
  subst e
  obtain ⟨c19, r19, e, hl20⟩ := uncons (n := 18) hl19
  subst e
  obtain ⟨c20, r20, e, hl21⟩ := uncons (n := 17) hl20
  subst e
  obtain ⟨c21, r21, e, hl22⟩ := uncons (n := 16) hl21
  subst e
  obtain ⟨c22, r22, e, hl23⟩ := uncons (n := 15) hl22
  subst e
  obtain ⟨c23, r23, e, hl24⟩ := uncons (n := 14) hl23
  subst e
  obtain ⟨c24, r24, e, hl25⟩ := uncons (n := 13) hl24
  subst e
  obtain ⟨c25, r25, e, hl26⟩ := uncons (n := 12) hl25
  subst e
  obtain ⟨c26, r26, e, hl27⟩ := uncons (n := 11) hl26
  subst e
  obtain ⟨c27, r27, e, hl28⟩ := uncons (n := 10) hl27
  subst e
  obtain ⟨c28, r28, e, hl29⟩ := uncons (n := 9) hl28
  subst e
  obtain ⟨c29, r29, e, hl30⟩ := uncons (n := 8) hl29
  subst e
  obtain ⟨c30, r30, e, hl31⟩ := uncons (n := 7) hl30
  subst e
  obtain ⟨c31, r31, e, hl32⟩ := uncons (n := 6) hl31
  subst e
  obtain ⟨c32, r32, e, hl33⟩ := uncons (n := 5) hl32
  subst e
  obtain ⟨c33, r33, e, hl34⟩ := uncons (n := 4) hl33
  subst e
  obtain ⟨c34, r34, e, hl35⟩ := uncons (n := 3) hl34
  subst e
  obtain ⟨c35, r35, e, hl36⟩ := uncons (n := 2) hl35
  subst e
  obtain ⟨c36, r36, e, hl37⟩ := uncons (n := 1) hl36
  subst e
  obtain ⟨c37, r37, e, hl38⟩ := uncons (n := 0) hl37
  subst e
  obtain rfl := List.length_eq_zero_iff.1 hl38
  ·
    obtain ⟨y0, e0⟩ := hx 0 _ rfl
    simp only [hc_int] at e0
    have k0 := one_int h_int e0
    simp at k0
    obtain ⟨y1, e1⟩ := hx 1 _ rfl
    simp only [hc_int] at e1
    have k1 := one_int h_int e1
    simp at k1
    obtain ⟨y2, e2⟩ := hx 2 _ rfl
    simp only [hc_int] at e2
    have k2 := one_int h_int e2
    simp at k2
    obtain ⟨y3, e3⟩ := hx 3 _ rfl
    simp only [hc_int] at e3
    have k3 := one_int h_int e3
    simp at k3
    obtain ⟨y4, e4⟩ := hx 4 _ rfl
    simp only [hc_int] at e4
    have k4 := one_int h_int e4
    simp at k4
    obtain ⟨y5, e5⟩ := hx 5 _ rfl
    simp only [hc_int] at e5
    have k5 := one_int h_int e5
    simp at k5
    obtain ⟨y6, e6⟩ := hx 6 _ rfl
    simp only [hc_int] at e6
    have k6 := one_int h_int e6
    simp at k6
    obtain ⟨y7, e7⟩ := hx 7 _ rfl
    simp only [hc_int] at e7
    have k7 := one_int h_int e7
    simp at k7
    obtain ⟨y8, e8⟩ := hx 8 _ rfl
    simp only [hc_Part] at e8
    have k8 := one_Part (by rfl) e8
    simp at k8
    obtain ⟨y9, e9⟩ := hx 9 _ rfl
    simp only [hc_Lives] at e9
    have k9 := one_slice h_Lives e9
    simp at k9
    obtain ⟨y10, e10⟩ := hx 10 _ rfl
    simp only [hc_Batch] at e10
    have k10 := one_Batch (by rfl) e10
    simp at k10
    obtain ⟨y11, e11⟩ := hx 11 _ rfl
    simp only [hc_Seens] at e11
    have k11 := one_slice h_Seens e11
    simp at k11
    obtain ⟨y12, e12⟩ := hx 12 _ rfl
    simp only [hc_Req] at e12
    obtain ⟨k12, s12, g12⟩ := one_Req (by rfl) e12
    simp at g12
    simp at k12
    obtain ⟨y13, e13⟩ := hx 13 _ rfl
    simp only [hc_Resp] at e13
    have k13 := one_Resp (by rfl) e13
    simp at k13
    refine ⟨?_, s12, by rw [← g12]; rfl⟩
    · simp only [List.mem_cons, List.not_mem_nil, or_false, forall_eq_or_imp, forall_eq]
      exact ⟨k0, k1, k2, k3, k4, k5, k6, k7, k8.1, k8.2.1, k8.2.2, k9, k10.1, k10.2.1, k10.2.2.1, k10.2.2.2.1, k10.2.2.2.2.1, k10.2.2.2.2.2, k11, k12.1, k12.2.1, k12.2.2.1, k12.2.2.2.1, k12.2.2.2.2.1, k12.2.2.2.2.2.1, k12.2.2.2.2.2.2.1, k12.2.2.2.2.2.2.2.1, k12.2.2.2.2.2.2.2.2.1, k12.2.2.2.2.2.2.2.2.2.1, k12.2.2.2.2.2.2.2.2.2.2, k13.1, k13.2.1, k13.2.2.1, k13.2.2.2.1, k13.2.2.2.2.1, k13.2.2.2.2.2.1, k13.2.2.2.2.2.2.1, k13.2.2.2.2.2.2.2⟩

set_option maxRecDepth 100000 in
theorem act_is {n : Nat} {cs : List Value} {x : DataW H × List MemPlace} (hl : cs.length = 46) (ht : DataW.trod enc Tryz.prog W 0 (fun _ => true) true n 66 cs = some x) : ∃ a : HAct, ActIs W a cs := by
  obtain ⟨n', -, hx⟩ := trod_fields hf_Act (by decide) ht
  have hl0 := hl
  obtain ⟨c0, r0, e, hl1⟩ := uncons (n := 45) hl0
  subst e
  obtain ⟨c1, r1, e, hl2⟩ := uncons (n := 44) hl1
  subst e
  obtain ⟨c2, r2, e, hl3⟩ := uncons (n := 43) hl2
  subst e
  obtain ⟨c3, r3, e, hl4⟩ := uncons (n := 42) hl3
  subst e
  obtain ⟨c4, r4, e, hl5⟩ := uncons (n := 41) hl4
  subst e
  obtain ⟨c5, r5, e, hl6⟩ := uncons (n := 40) hl5
  subst e
  obtain ⟨c6, r6, e, hl7⟩ := uncons (n := 39) hl6
  subst e
  obtain ⟨c7, r7, e, hl8⟩ := uncons (n := 38) hl7
  subst e
  obtain ⟨c8, r8, e, hl9⟩ := uncons (n := 37) hl8
  subst e
  obtain ⟨c9, r9, e, hl10⟩ := uncons (n := 36) hl9
  subst e
  obtain ⟨c10, r10, e, hl11⟩ := uncons (n := 35) hl10
  subst e
  obtain ⟨c11, r11, e, hl12⟩ := uncons (n := 34) hl11
  subst e
  obtain ⟨c12, r12, e, hl13⟩ := uncons (n := 33) hl12
  subst e
  obtain ⟨c13, r13, e, hl14⟩ := uncons (n := 32) hl13
  subst e
  obtain ⟨c14, r14, e, hl15⟩ := uncons (n := 31) hl14
  subst e
  obtain ⟨c15, r15, e, hl16⟩ := uncons (n := 30) hl15
  subst e
  obtain ⟨c16, r16, e, hl17⟩ := uncons (n := 29) hl16
  subst e
  obtain ⟨c17, r17, e, hl18⟩ := uncons (n := 28) hl17
  subst e
  obtain ⟨c18, r18, e, hl19⟩ := uncons (n := 27) hl18
  subst e
  obtain ⟨c19, r19, e, hl20⟩ := uncons (n := 26) hl19
  subst e
  obtain ⟨c20, r20, e, hl21⟩ := uncons (n := 25) hl20
  subst e
  obtain ⟨c21, r21, e, hl22⟩ := uncons (n := 24) hl21
  subst e
  obtain ⟨c22, r22, e, hl23⟩ := uncons (n := 23) hl22
  subst e
  obtain ⟨c23, r23, e, hl24⟩ := uncons (n := 22) hl23
  subst e
  obtain ⟨c24, r24, e, hl25⟩ := uncons (n := 21) hl24
  subst e
  obtain ⟨c25, r25, e, hl26⟩ := uncons (n := 20) hl25
  subst e
  obtain ⟨c26, r26, e, hl27⟩ := uncons (n := 19) hl26
  subst e
  obtain ⟨c27, r27, e, hl28⟩ := uncons (n := 18) hl27
  subst e
  obtain ⟨c28, r28, e, hl29⟩ := uncons (n := 17) hl28
  subst e
  obtain ⟨c29, r29, e, hl30⟩ := uncons (n := 16) hl29
  subst e
  obtain ⟨c30, r30, e, hl31⟩ := uncons (n := 15) hl30
  subst e
  obtain ⟨c31, r31, e, hl32⟩ := uncons (n := 14) hl31
  subst e
  obtain ⟨c32, r32, e, hl33⟩ := uncons (n := 13) hl32
  subst e
  obtain ⟨c33, r33, e, hl34⟩ := uncons (n := 12) hl33
  subst e
  obtain ⟨c34, r34, e, hl35⟩ := uncons (n := 11) hl34
  subst e
  obtain ⟨c35, r35, e, hl36⟩ := uncons (n := 10) hl35
  subst e
  obtain ⟨c36, r36, e, hl37⟩ := uncons (n := 9) hl36
  subst e
  obtain ⟨c37, r37, e, hl38⟩ := uncons (n := 8) hl37
  subst e
  obtain ⟨c38, r38, e, hl39⟩ := uncons (n := 7) hl38
  subst e
  obtain ⟨c39, r39, e, hl40⟩ := uncons (n := 6) hl39
  subst e
  obtain ⟨c40, r40, e, hl41⟩ := uncons (n := 5) hl40
  subst e
  obtain ⟨c41, r41, e, hl42⟩ := uncons (n := 4) hl41
  subst e
  obtain ⟨c42, r42, e, hl43⟩ := uncons (n := 3) hl42
  subst e
  obtain ⟨c43, r43, e, hl44⟩ := uncons (n := 2) hl43
  subst e
  obtain ⟨c44, r44, e, hl45⟩ := uncons (n := 1) hl44
  subst e
  obtain ⟨c45, r45, e, hl46⟩ := uncons (n := 0) hl45
  subst e
  obtain rfl := List.length_eq_zero_iff.1 hl46
  ·
    obtain ⟨y0, e0⟩ := hx 0 _ rfl
    obtain ⟨y1, e1⟩ := hx 1 _ rfl
    obtain ⟨y2, e2⟩ := hx 2 _ rfl
    obtain ⟨y3, e3⟩ := hx 3 _ rfl
    obtain ⟨y4, e4⟩ := hx 4 _ rfl
    obtain ⟨y5, e5⟩ := hx 5 _ rfl
    simp only [hc_int, hc_Msg, hc_Event, hc_Ints, hc_string] at e0 e1 e2 e3 e4 e5
    obtain ⟨z0, g0, _, _⟩ := DataW.trod_int h_int e0
    obtain ⟨k1, gs, g1⟩ := one_Msg (by rfl) e1
    obtain ⟨ev, g2⟩ := event_cells4 (by rfl) e2
    obtain ⟨z3, g3, _, _⟩ := DataW.trod_int h_int e3
    obtain ⟨fv, l, g4, hr⟩ := ints_trod e4
    have k4 := one_slice h_Ints e4
    obtain ⟨k5, ms, g5⟩ := one_str h_string e5
    simp at g0 g1 g2 g3 g4 g5 k1 k4 k5
    obtain ⟨q0, q1, q2, q3⟩ := g2
    subst g0; subst g1; subst g3; subst g4; subst g5; subst q0; subst q1; subst q2; subst q3
    refine ⟨⟨z0, ev, l⟩, rfl, ?_, gs, ms, _, rfl, rfl, rfl, rfl, rfl, rfl, rfl, rfl, hr⟩
    simp only [List.mem_cons, List.not_mem_nil, or_false, forall_eq_or_imp, forall_eq]
    exact ⟨rfl, k1.1, k1.2.1, k1.2.2.1, k1.2.2.2.1, k1.2.2.2.2.1, k1.2.2.2.2.2.1, k1.2.2.2.2.2.2.1, k1.2.2.2.2.2.2.2.1, k1.2.2.2.2.2.2.2.2.1, k1.2.2.2.2.2.2.2.2.2.1, k1.2.2.2.2.2.2.2.2.2.2.1, k1.2.2.2.2.2.2.2.2.2.2.2.1, k1.2.2.2.2.2.2.2.2.2.2.2.2.1, k1.2.2.2.2.2.2.2.2.2.2.2.2.2.1, k1.2.2.2.2.2.2.2.2.2.2.2.2.2.2.1, k1.2.2.2.2.2.2.2.2.2.2.2.2.2.2.2.1, k1.2.2.2.2.2.2.2.2.2.2.2.2.2.2.2.2.1, k1.2.2.2.2.2.2.2.2.2.2.2.2.2.2.2.2.2.1, k1.2.2.2.2.2.2.2.2.2.2.2.2.2.2.2.2.2.2.1, k1.2.2.2.2.2.2.2.2.2.2.2.2.2.2.2.2.2.2.2.1, k1.2.2.2.2.2.2.2.2.2.2.2.2.2.2.2.2.2.2.2.2.1, k1.2.2.2.2.2.2.2.2.2.2.2.2.2.2.2.2.2.2.2.2.2.1, k1.2.2.2.2.2.2.2.2.2.2.2.2.2.2.2.2.2.2.2.2.2.2.1, k1.2.2.2.2.2.2.2.2.2.2.2.2.2.2.2.2.2.2.2.2.2.2.2.1, k1.2.2.2.2.2.2.2.2.2.2.2.2.2.2.2.2.2.2.2.2.2.2.2.2.1, k1.2.2.2.2.2.2.2.2.2.2.2.2.2.2.2.2.2.2.2.2.2.2.2.2.2.1, k1.2.2.2.2.2.2.2.2.2.2.2.2.2.2.2.2.2.2.2.2.2.2.2.2.2.2.1, rfl, k1.2.2.2.2.2.2.2.2.2.2.2.2.2.2.2.2.2.2.2.2.2.2.2.2.2.2.2.2.1, k1.2.2.2.2.2.2.2.2.2.2.2.2.2.2.2.2.2.2.2.2.2.2.2.2.2.2.2.2.2.1, k1.2.2.2.2.2.2.2.2.2.2.2.2.2.2.2.2.2.2.2.2.2.2.2.2.2.2.2.2.2.2.1, k1.2.2.2.2.2.2.2.2.2.2.2.2.2.2.2.2.2.2.2.2.2.2.2.2.2.2.2.2.2.2.2.1, k1.2.2.2.2.2.2.2.2.2.2.2.2.2.2.2.2.2.2.2.2.2.2.2.2.2.2.2.2.2.2.2.2.1, k1.2.2.2.2.2.2.2.2.2.2.2.2.2.2.2.2.2.2.2.2.2.2.2.2.2.2.2.2.2.2.2.2.2.1, k1.2.2.2.2.2.2.2.2.2.2.2.2.2.2.2.2.2.2.2.2.2.2.2.2.2.2.2.2.2.2.2.2.2.2.1, k1.2.2.2.2.2.2.2.2.2.2.2.2.2.2.2.2.2.2.2.2.2.2.2.2.2.2.2.2.2.2.2.2.2.2.2.1, k1.2.2.2.2.2.2.2.2.2.2.2.2.2.2.2.2.2.2.2.2.2.2.2.2.2.2.2.2.2.2.2.2.2.2.2.2.1, k1.2.2.2.2.2.2.2.2.2.2.2.2.2.2.2.2.2.2.2.2.2.2.2.2.2.2.2.2.2.2.2.2.2.2.2.2.2, rfl, rfl, rfl, rfl, rfl, k4, rfl⟩

set_option maxRecDepth 100000 in
theorem acts_of_trod {v : Value} {d : DataW H} {ps : List MemPlace} {base : Nat} (hv : Value.okWide Tryz.prog W .any base 61 v) (h : DataW.Trod enc Tryz.prog W 0 (fun _ => true) true 61 v d ps) : ∃ A, ActsRd W v A := by
  obtain ⟨fuel, hf⟩ := h
  obtain ⟨v', l, h1, h2, h3⟩ := rd_of_trod (α := {cs : List Value // cs.length = 46}) h_Acts hc_Act (by decide) (fun y => y.1) (fun y => ∃ a, ActIs W a y.1) (fun y => y.2) (by
    intro n cs x hl ht
    exact ⟨⟨cs, hl⟩, rfl, act_is hl ht⟩) hf
  have hv' : v' = v := by
    obtain ⟨a, n, c, rfl⟩ := okWide_slice h_Acts hv
    simp only [Value.cells, List.cons.injEq, and_true] at h1
    exact h1.symm
  subst hv'
  have key : ∀ (l : List {cs : List Value // cs.length = 46}), (∀ y ∈ l, ∃ a, ActIs W a y.1) → ∃ A : List HAct, A.length = l.length ∧ All2 (ActIs W) A (l.map (·.1)) := by
    intro l
    induction l with
    | nil => intro _; exact ⟨[], rfl, .nil⟩
    | cons y l ih =>
      intro hq
      obtain ⟨a, ha⟩ := hq y (by simp)
      obtain ⟨A, h4, h5⟩ := ih (fun z hz => hq z (by simp [hz]))
      exact ⟨a :: A, by simp [h4], .cons ha h5⟩
  obtain ⟨A, h4, h5⟩ := key l h3
  refine ⟨A, l.map (·.1), ?_, h5⟩
  rw [h4]
  have : (l.map (·.1)).flatten = l.flatMap (fun y => y.1) := by rw [List.flatMap]
  rw [this]
  exact h2

set_option maxRecDepth 100000 in
theorem sizes_of_trod {v : Value} {d : DataW H} {ps : List MemPlace} {base : Nat} (hv : Value.okWide Tryz.prog W .any base 60 v) (h : DataW.Trod enc Tryz.prog W 0 (fun _ => true) true 60 v d ps) :
    ∃ s0 s1 s2, v = .agg #[.int .i64 s0, .int .i64 s1, .int .i64 s2] := by
  simp only [Value.okWide, h_A3] at hv
  obtain ⟨cs, rfl, -⟩ := hv
  obtain ⟨fuel, hf⟩ := h
  obtain ⟨xs, m, rfl, -, hl, hxl, hx⟩ := DataW.trod_array h_A3 hf
  have hc : Tryz.prog.cellsOf 60 = 3 := by kernel_rfl
  rw [hc] at hl
  have hl' : cs.toList.length = 3 := by simpa [Value.cells] using hl
  simp only [Value.cells] at hx
  obtain ⟨l, hcl⟩ : ∃ l, cs.toList = l := ⟨_, rfl⟩
  rw [hcl] at hl' hx
  have hget : ∀ i (hi : i < 3), ∃ y, DataW.trod enc Tryz.prog W 0 (fun _ => true) true m 3 ((l.drop (i * 1)).take 1) = some y := by
    intro i hi
    have := hx i hi
    rw [hc_int] at this
    exact ⟨xs[i], by rw [this, List.getElem?_eq_getElem (by omega)]⟩
  match l, hl' with
  | [c0, c1, c2], _ =>
    obtain ⟨y0, e0⟩ := hget 0 (by decide)
    obtain ⟨y1, e1⟩ := hget 1 (by decide)
    obtain ⟨y2, e2⟩ := hget 2 (by decide)
    obtain ⟨z0, g0, _, _⟩ := DataW.trod_int h_int e0
    obtain ⟨z1, g1, _, _⟩ := DataW.trod_int h_int e1
    obtain ⟨z2, g2, _, _⟩ := DataW.trod_int h_int e2
    simp at g0 g1 g2
    subst g0; subst g1; subst g2
    refine ⟨z0, z1, z2, ?_⟩
    have : cs = #[.int .i64 z0, .int .i64 z1, .int .i64 z2] := Array.toList_inj.1 (by rw [hcl])
    rw [this]

set_option maxRecDepth 100000 in
theorem ints_of_trod {v : Value} {d : DataW H} {ps : List MemPlace} {base : Nat} (hv : Value.okWide Tryz.prog W .any base 22 v) (h : DataW.Trod enc Tryz.prog W 0 (fun _ => true) true 22 v d ps) : ∃ l, IntsRd W v l := by
  obtain ⟨fuel, hf⟩ := h
  obtain ⟨v', l, h1, h2⟩ := ints_trod hf
  obtain ⟨a, n, c, rfl⟩ := okWide_slice h_Ints hv
  simp only [Value.cells, List.cons.injEq, and_true] at h1
  subst h1
  exact ⟨l, h2⟩
end
end Go.Proofs.YtcpaaleogmiamaaGreatDoor
namespace Go.Proofs.YtcpaaleogmiamaaGreatDoor
open Go.RowKit

theorem gRange : Tryz.prog.globalNamed "strconv.ErrRange" = some (Tryz.laysAtoi_ren.g 16) := by kernel_rfl
theorem gSyntax : Tryz.prog.globalNamed "strconv.ErrSyntax" = some (Tryz.laysAtoi_ren.g 15) := by kernel_rfl
theorem gRangeType : (Tryz.prog.globals[Tryz.laysAtoi_ren.g 16]?).map (·.type) = some 214 := by kernel_rfl
theorem gSyntaxType : (Tryz.prog.globals[Tryz.laysAtoi_ren.g 15]?).map (·.type) = some 214 := by kernel_rfl
theorem cellsErrStr : Tryz.prog.cellsOf 339 = 1 := by kernel_rfl
theorem cellsStr : Tryz.prog.cellsOf 9 = 1 := by kernel_rfl
theorem star : "*" ++ "errors.errorString" = "*errors.errorString" := by decide
theorem rowErr (u : TypeId) (h : Tryz.prog.typeName? 3 u = some "*errors.errorString") : u = 337 :=
  typeName_ptr_named (nm := "errors.errorString") (by rw [star]; kernel_rfl) (by kernel_rfl) (by decide) u (by rw [star]; exact h)
theorem gTab : Tryz.prog.globalNamed "internal/strconv.uint64pow10" = some 0 := by kernel_rfl
theorem gTabType : (Tryz.prog.globals[0]?).map (·.type) = some 319 := by kernel_rfl
theorem cellsTab : Tryz.prog.cellsOf 319 = 20 := by kernel_rfl
theorem cellsU64 : Tryz.prog.cellsOf 249 = 1 := by kernel_rfl
theorem tabEq : (Rows.laid_internal_strconv_uint64pow10 : DataW Unit) = Lib.tabData .u64 Lib.pow10Tab := by kernel_rfl

theorem env_of_laid {W : World} (h : laidMetH Tryz.prog Rows.helmHearsRow.laid W) : Env W := by
  have h : laidMet Tryz.prog Rows.helmHearsRow.laid W := h
  have h2 := h.tail.tail
  have h3 := h2.tail
  have h4 := h3.tail
  refine ⟨?_, ?_, ?_⟩
  · change laidMet Tryz.prog ((_, Rows.laid_internal_strconv_uint64pow10) :: _) W at h2
    rw [tabEq] at h2
    exact Lib.tabIs_of_head gTab gTabType Tryz.underlying319 Tryz.underlying249 cellsU64 cellsTab h2
  · obtain ⟨a0, s0, hv0, -, -, -⟩ := laid_sentinel h4 gSyntax gSyntaxType Tryz.underlying214 rowErr Tryz.underlying337 Tryz.underlying339 rfl rfl Tryz.underlying9 cellsErrStr cellsStr
    exact ⟨_, (by have h0 := World.var?_cell gSyntax hv0 0; simpa using h0), .inr ⟨_, _, rfl⟩⟩
  · obtain ⟨a0, s0, hv0, -, -, -⟩ := laid_sentinel h3 gRange gRangeType Tryz.underlying214 rowErr Tryz.underlying337 Tryz.underlying339 rfl rfl Tryz.underlying9 cellsErrStr cellsStr
    exact ⟨_, (by have h0 := World.var?_cell gRange hv0 0; simpa using h0), .inr ⟨_, _, rfl⟩⟩

theorem laid_met (os : Os) (args : Array Value) : laidMet Tryz.prog Rows.helmHearsRow.laid ((World.doorLaid Tryz.prog 400 os).forCall (fun _ _ => 0) ⟨#[], args, []⟩).memory :=
  laidMet_of_run' 8 (by kernel_rfl) (by kernel_rfl)

end Go.Proofs.YtcpaaleogmiamaaGreatDoor
namespace Go.Proofs.YtcpaaleogmiamaaGreatDoor

set_option maxRecDepth 100000 in
set_option maxHeartbeats 16000000 in
theorem hs_closed : joinedFacts Tryz.pinned.checked.prog 3 Tryz.f3 (OpenSpec.ofChange Rows.helmHearsSpec).bare Rows.helmHearsRow = true := by
  unfold joinedFacts
  refine (Bool.and_eq_true _ _).mpr ⟨?_, by decide +kernel⟩
  iterate 30 (refine (Bool.and_eq_true _ _).mpr ⟨?_, by decide +kernel⟩)
  all_goals decide +kernel
end Go.Proofs.YtcpaaleogmiamaaGreatDoor
