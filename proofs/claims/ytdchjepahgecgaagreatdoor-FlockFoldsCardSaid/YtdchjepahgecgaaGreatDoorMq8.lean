/- Texts compared; where an element stands in a rising row. -/
/- Groups in plain words: names, who owns which partition, what a record does to the groups. -/
/- The library's contracts at this dump's numbers (by the kit's lay-plain). -/
import Derived.Test.YtdchjepahgecgaaGreatDoorMq7
import Derived.Shelf.SlicesG.Delete
import Derived.Ground.SlgnProg
import Derived.Shelf.Strings.SlTrimAscii
import Derived.Ground.NamesProg
import Derived.Test.YtdchjepahgecgaaGreatDoorProg
namespace Go.Proofs.YtdchjepahgecgaaGreatDoor
open Go.RowKit

theorem bytesLess_dec : ∀ (x y : List UInt8), Op.bytesLess x y = decide (x < y)
  | [], [] => by simp [Op.bytesLess]
  | _ :: _, [] => by simp [Op.bytesLess]
  | [], _ :: _ => by simp [Op.bytesLess]
  | a :: x, b :: y => by
    rw [Op.bytesLess, bytesLess_dec x y]
    simp only [List.cons_lt_cons_iff]
    by_cases h1 : a < b <;> by_cases h2 : a = b <;> by_cases h3 : x < y <;> simp [h1, h2, h3]
theorem bl_dec (a b : List UInt8) : Op.bytesLess (bs a).toList (bs b).toList = decide (a < b) := by rw [bytesLess_dec, bs_toList, bs_toList]
theorem beq_dec (a b : List UInt8) : ((bs a).toList == (bs b).toList) = decide (a = b) := by
  rw [bs_toList, bs_toList]
  by_cases h : a = b <;> simp [h]
theorem txt_tri {a b : List UInt8} (h : ¬ a < b) (k : ¬ b < a) : a = b := List.le_antisymm (by simpa using k) (by simpa using h)
theorem txt_irrefl (a : List UInt8) : ¬ a < a := List.lt_irrefl a
theorem txt_trans {a b c : List UInt8} (h : a < b) (k : b < c) : a < c := List.lt_trans h k

def cmpS (a b : List UInt8) : Int := if a < b then -1 else if b < a then 1 else 0

theorem isNaNC_any (a : List UInt8) (w : World) : Calls Tryz.prog 89 #[.string (bs a)] w fun e w' => e = .returned (.bool false) ∧ w' = w := by
  go_enter Tryz.func89, Tryz.ntmps89
  go_wp2
  go_ret
  exact ⟨by simp, rfl⟩
theorem isNaNS_any (a : List UInt8) (w : World) : Calls Tryz.prog 74 #[.string (bs a)] w fun e w' => e = .returned (.bool false) ∧ w' = w := by
  go_enter Tryz.func74, Tryz.ntmps74
  go_wp2
  go_ret
  exact ⟨by simp, rfl⟩
theorem LessS_any (a b : List UInt8) (w : World) : Calls Tryz.prog 73 #[.string (bs a), .string (bs b)] w fun e w' => e = .returned (.bool (decide (a < b))) ∧ w' = w := by
  have h := bl_dec a b
  go_enter Tryz.func73, Tryz.ntmps73
  go_wp2_with (first | (go_at_call 89; refine (isNaNC_any _ _).mono ?_; rintro _ w1 ⟨rfl, rfl⟩))
  go_ret
  exact ⟨by simp, rfl⟩
theorem CmpS_any (a b : List UInt8) (w : World) : Calls Tryz.prog 58 #[.string (bs a), .string (bs b)] w fun e w' => e = .returned (.int .i64 (cmpS a b)) ∧ w' = w := by
  by_cases h1 : a < b
  · have h := bl_dec a b
    rw [decide_eq_true h1] at h
    have hc : cmpS a b = -1 := by simp [cmpS, h1]
    rw [hc]
    go_enter Tryz.func58, Tryz.ntmps58
    go_wp2_with (first | (go_at_call 89; refine (isNaNC_any _ _).mono ?_; rintro _ w1 ⟨rfl, rfl⟩))
    go_ret
    exact ⟨rfl, rfl⟩
  · by_cases h2 : b < a
    · have h := bl_dec a b
      rw [decide_eq_false h1] at h
      have hn : ((bs a).toList == (bs b).toList) = false := by
        rw [beq_dec]
        simp only [decide_eq_false_iff_not]
        intro e; subst e; exact h1 h2
      have hc : cmpS a b = 1 := by simp [cmpS, h1, h2]
      rw [hc]
      go_enter Tryz.func58, Tryz.ntmps58
      go_wp2_with (first | (go_at_call 89; refine (isNaNC_any _ _).mono ?_; rintro _ w1 ⟨rfl, rfl⟩))
      go_ret
      exact ⟨rfl, rfl⟩
    · have e := txt_tri h1 h2
      subst e
      have h := bl_dec a a
      rw [decide_eq_false h1] at h
      have hc : cmpS a a = 0 := by simp [cmpS, h1]
      rw [hc]
      go_enter Tryz.func58, Tryz.ntmps58
      go_wp2_with (first | (go_at_call 89; refine (isNaNC_any _ _).mono ?_; rintro _ w1 ⟨rfl, rfl⟩))
      go_ret
      exact ⟨rfl, rfl⟩

/-! where an element stands, or would; whether it is there -/
section
variable {α κ : Type} [LT κ] (key : α → κ)
def posK [DecidableRel (fun a b : κ => a < b)] (L : List α) (s : κ) : Nat := L.countP (fun x => decide (key x < s))
def hasK {α κ : Type} [DecidableEq κ] (key : α → κ) (L : List α) (s : κ) : Bool := L.any (fun x => decide (key x = s))
abbrev Up (L : List α) : Prop := L.Pairwise (fun a b => key a < key b)

theorem posK_le [DecidableRel (fun a b : κ => a < b)] (L : List α) (s : κ) : posK key L s ≤ L.length := List.countP_le_length

theorem posK_of [DecidableRel (fun a b : κ => a < b)] {L : List α} {s : κ} {i : Nat} (hi : i ≤ L.length) (h1 : ∀ t (ht : t < L.length), t < i → key L[t] < s) (h2 : ∀ t (ht : t < L.length), i ≤ t → ¬ key L[t] < s) : posK key L s = i := by
  unfold posK
  have e : L = L.take i ++ L.drop i := (List.take_append_drop i L).symm
  rw [e, List.countP_append]
  have e1 : (L.take i).countP (fun x => decide (key x < s)) = i := by
    rw [List.countP_eq_length.2]
    · simp; omega
    · intro a ha
      obtain ⟨t, ht, rfl⟩ := List.mem_iff_getElem.1 ha
      have ht' : t < i := by simp at ht; omega
      simpa using h1 t (by simp at ht; omega) ht'
  have e2 : (L.drop i).countP (fun x => decide (key x < s)) = 0 := by
    rw [List.countP_eq_zero]
    intro a ha
    obtain ⟨t, ht, rfl⟩ := List.mem_iff_getElem.1 ha
    have ht' : i + t < L.length := by simp at ht; omega
    have := h2 (i + t) ht' (by omega)
    simpa using this
  rw [e1, e2, Nat.add_zero]

theorem hasK_of [DecidableEq κ] (irr : ∀ a : κ, ¬ a < a) (_tr : ∀ a b c : κ, a < b → b < c → a < c) {L : List α} {s : κ} {i : Nat} (hi : i ≤ L.length) (hr : Up key L) (h1 : ∀ t (ht : t < L.length), t < i → key L[t] < s) (h2 : ∀ t (ht : t < L.length), i ≤ t → ¬ key L[t] < s) :
    (∀ h : i < L.length, hasK key L s = decide (key L[i] = s)) ∧ (i = L.length → hasK key L s = false) := by
  have keyf : ∀ t (ht : t < L.length), key L[t] = s → t = i ∧ i < L.length := by
    intro t ht e
    by_cases hti : t < i
    · have := h1 t ht hti; rw [e] at this; exact absurd this (irr _)
    · by_cases e2 : t = i
      · exact ⟨e2, by omega⟩
      · have h3 := List.pairwise_iff_getElem.1 hr i t (by omega) ht (by omega)
        have h4 := h2 i (by omega) (Nat.le_refl _)
        rw [e] at h3
        exact absurd h3 h4
  constructor
  · intro h
    by_cases e : key L[i] = s
    · simp only [hasK, e, decide_true, List.any_eq_true, decide_eq_true_eq]
      exact ⟨_, List.getElem_mem h, e⟩
    · simp only [hasK, e, decide_false, List.any_eq_false, decide_eq_true_eq]
      intro x hx hxe
      obtain ⟨t, ht, rfl⟩ := List.mem_iff_getElem.1 hx
      have := (keyf t ht hxe).1
      subst this
      exact e hxe
  · intro h
    simp only [hasK, List.any_eq_false, decide_eq_true_eq]
    intro x hx hxe
    obtain ⟨t, ht, rfl⟩ := List.mem_iff_getElem.1 hx
    have := (keyf t ht hxe).2
    omega

/-- A rising row is parted at each s. -/
theorem up_split [DecidableRel (fun a b : κ => a < b)] (tr : ∀ a b c : κ, a < b → b < c → a < c) : ∀ {L : List α} (_ : Up key L) (s : κ), (∀ t (ht : t < L.length), t < posK key L s → key L[t] < s) ∧ (∀ t (ht : t < L.length), posK key L s ≤ t → ¬ key L[t] < s)
  | [], _, s => ⟨fun t ht => absurd ht (Nat.not_lt_zero t), fun t ht => absurd ht (Nat.not_lt_zero t)⟩
  | x :: L, hr, s => by
    have hr2 := List.pairwise_cons.1 hr
    have ih := up_split tr hr2.2 s
    by_cases hx : key x < s
    · have e : posK key (x :: L) s = posK key L s + 1 := by simp [posK, hx]
      rw [e]
      constructor
      · intro t ht htp
        cases t with
        | zero => exact hx
        | succ t => exact ih.1 t (by simpa using ht) (by omega)
      · intro t ht htp
        cases t with
        | zero => omega
        | succ t => exact ih.2 t (by simpa using ht) (by omega)
    · have hn : ∀ y ∈ L, ¬ key y < s := fun y hy hys => hx (tr _ _ _ (hr2.1 y hy) hys)
      have e : posK key (x :: L) s = 0 := by
        simp only [posK, List.countP_eq_zero, decide_eq_true_eq]
        intro y hy
        rcases List.mem_cons.1 hy with rfl | hy
        · exact hx
        · exact hn y hy
      rw [e]
      constructor
      · intro t _ h; omega
      · intro t ht _
        cases t with
        | zero => exact hx
        | succ t => exact hn _ (List.getElem_mem _)
end
end Go.Proofs.YtdchjepahgecgaaGreatDoor
namespace Go.Proofs.YtdchjepahgecgaaGreatDoor
open Go.RowKit

/-! names -/
def isLetterB (c : UInt8) : Bool := (decide (97 ≤ c.toNat) && decide (c.toNat ≤ 122)) || (decide (48 ≤ c.toNat) && decide (c.toNat ≤ 57))
def nameB (s : List UInt8) : Bool := decide (1 ≤ s.length) && (decide (s.length ≤ 8) && s.all isLetterB)
/-- Names that can be a group's members. -/
abbrev StrsUp (l : List (List UInt8)) : Prop := l.Pairwise (fun a b => a < b)
def goodB (l : List (List UInt8)) : Bool := l.all nameB && (decide (StrsUp l) && decide (l.length ≤ 4))

/-! owners -/
/-- How many partitions the i-th of m members gets, of n. -/
def shareN (n m : Int) (i : Nat) : Nat := (n.tdiv m + if (i : Int) < n.tmod m then 1 else 0).toNat
/-- The owners of the first k members' partitions. -/
def ownersTo (n m : Int) (l : List (List UInt8)) : Nat → List (Int × List UInt8)
  | 0 => []
  | k + 1 => ownersTo n m l k ++ (List.range (shareN n m k)).map (fun j => ((((ownersTo n m l k).length + j + 1 : Nat) : Int), l.getD k []))
def assignOk (parts : Int) (l : List (List UInt8)) : Bool := goodB l && (decide (l.length ≠ 0) && (decide (0 ≤ parts) && decide (parts ≤ 4)))
def assignP (parts : Int) (l : List (List UInt8)) : List (Int × List UInt8) := if assignOk parts l = true then ownersTo (parts - 1) l.length l l.length else []
def ownerP (parts : Int) (l : List (List UInt8)) (p : Int) : List UInt8 × Bool :=
  match (assignP parts l).find? (fun o => o.1 == p) with | some o => (o.2, true) | none => ([], false)
def partsP (parts : Int) (l : List (List UInt8)) (m : List UInt8) : List Int := ((assignP parts l).filter (fun o => o.2 == m)).map (·.1)
end Go.Proofs.YtdchjepahgecgaaGreatDoor
namespace Go.Proofs.YtdchjepahgecgaaGreatDoor
open Go.Shelf
def Tryz.delS_ren : Go.Shelf.Ren := ⟨fun | 46 => 36 | n => n, fun | 25 => 41 | 26 => 9 | 3 => 3 | 4 => 4 | 0 => 0 | n => n, fun | n => n⟩
theorem Tryz.delS : Go.Proofs.SlLaysN.n46 Tryz.prog Tryz.delS_ren := {
  mixed := by kernel_rfl
  f46 := ⟨Tryz.f36.name, by decide, Tryz.func36.trans (congrArg some (by kernel_rfl))⟩
  t0 := Tryz.underlying0
  a0 := Tryz.isAgg0
  z0 := Tryz.sizeOf0
  v0 := Tryz.zeroValue0
  t3 := Tryz.underlying3
  a3 := Tryz.isAgg3
  z3 := Tryz.sizeOf3
  v3 := Tryz.zeroValue3
  t4 := Tryz.underlying4
  a4 := Tryz.isAgg4
  z4 := Tryz.sizeOf4
  v4 := Tryz.zeroValue4
  t25 := Tryz.underlying41
  a25 := Tryz.isAgg41
  z25 := Tryz.sizeOf41
  v25 := Tryz.zeroValue41
  t26 := Tryz.underlying9
  a26 := Tryz.isAgg9
  z26 := Tryz.sizeOf9
  v26 := Tryz.zeroValue9
  i26 := by kernel_rfl }
def Tryz.laysTrim_ren : Go.Shelf.Ren := ⟨fun | 160 => 103 | 232 => 119 | 231 => 118 | 227 => 120 | 234 => 122 | 233 => 121 | 236 => 124 | 235 => 123 | 228 => 139 | 271 => 142 | 151 => 141 | 197 => 140 | 120 => 156 | 152 => 155 | 260 => 154 | 137 => 159 | 119 => 160 | 224 => 134 | 225 => 133 | 217 => 132 | 266 => 150 | n => n, fun | 9 => 9 | 4 => 4 | 3 => 3 | 5 => 5 | 117 => 150 | 116 => 149 | 0 => 0 | 124 => 153 | 21 => 21 | 105 => 169 | 46 => 32 | 119 => 188 | 139 => 191 | 138 => 190 | n => n, fun | 3 => 4 | 4 => 5 | n => n⟩
theorem Tryz.laysTrim : Go.Proofs.Lays.n160 Tryz.prog Tryz.laysTrim_ren := {
  mixed := by kernel_rfl
  f119 := Tryz.func160.trans (congrArg some (by kernel_rfl))
  f120 := Tryz.func156.trans (congrArg some (by kernel_rfl))
  f137 := Tryz.func159.trans (congrArg some (by kernel_rfl))
  f151 := Tryz.func141.trans (congrArg some (by kernel_rfl))
  f152 := Tryz.func155.trans (congrArg some (by kernel_rfl))
  f160 := Tryz.func103.trans (congrArg some (by kernel_rfl))
  f197 := Tryz.func140.trans (congrArg some (by kernel_rfl))
  f217 := Tryz.func132.trans (congrArg some (by kernel_rfl))
  f224 := Tryz.func134.trans (congrArg some (by kernel_rfl))
  f225 := Tryz.func133.trans (congrArg some (by kernel_rfl))
  f227 := Tryz.func120.trans (congrArg some (by kernel_rfl))
  f228 := Tryz.func139.trans (congrArg some (by kernel_rfl))
  f231 := Tryz.func118.trans (congrArg some (by kernel_rfl))
  f232 := Tryz.func119.trans (congrArg some (by kernel_rfl))
  f233 := Tryz.func121.trans (congrArg some (by kernel_rfl))
  f234 := Tryz.func122.trans (congrArg some (by kernel_rfl))
  f235 := Tryz.func123.trans (congrArg some (by kernel_rfl))
  f236 := Tryz.func124.trans (congrArg some (by kernel_rfl))
  f260 := Tryz.func154.trans (congrArg some (by kernel_rfl))
  f266 := Tryz.func150.trans (congrArg some (by kernel_rfl))
  f271 := Tryz.func142.trans (congrArg some (by kernel_rfl))
  t0 := Tryz.underlying0
  a0 := Tryz.isAgg0
  z0 := Tryz.sizeOf0
  v0 := Tryz.zeroValue0
  t3 := Tryz.underlying3
  a3 := Tryz.isAgg3
  z3 := Tryz.sizeOf3
  v3 := Tryz.zeroValue3
  t4 := Tryz.underlying4
  a4 := Tryz.isAgg4
  z4 := Tryz.sizeOf4
  v4 := Tryz.zeroValue4
  t5 := Tryz.underlying5
  a5 := Tryz.isAgg5
  z5 := Tryz.sizeOf5
  v5 := Tryz.zeroValue5
  t9 := Tryz.underlying9
  a9 := Tryz.isAgg9
  z9 := Tryz.sizeOf9
  v9 := Tryz.zeroValue9
  t21 := Tryz.underlying21
  a21 := Tryz.isAgg21
  z21 := Tryz.sizeOf21
  v21 := Tryz.zeroValue21
  t46 := Tryz.underlying32
  a46 := Tryz.isAgg32
  z46 := Tryz.sizeOf32
  v46 := Tryz.zeroValue32
  t105 := Tryz.underlying169
  a105 := Tryz.isAgg169
  z105 := Tryz.sizeOf169
  v105 := Tryz.zeroValue169
  t116 := Tryz.underlying149
  a116 := Tryz.isAgg149
  z116 := Tryz.sizeOf149
  t117 := Tryz.underlying150
  a117 := Tryz.isAgg150
  z117 := Tryz.sizeOf150
  v117 := Tryz.zeroValue150
  t119 := Tryz.underlying188
  a119 := Tryz.isAgg188
  z119 := Tryz.sizeOf188
  t124 := Tryz.underlying153
  a124 := Tryz.isAgg153
  z124 := Tryz.sizeOf153
  v124 := Tryz.zeroValue153
  t138 := Tryz.underlying190
  a138 := Tryz.isAgg190
  z138 := Tryz.sizeOf190
  v138 := Tryz.zeroValue190
  t139 := Tryz.underlying191
  a139 := Tryz.isAgg191
  z139 := Tryz.sizeOf191
  v139 := Tryz.zeroValue191
  g3 := by kernel_rfl
  g4 := by kernel_rfl }
end Go.Proofs.YtdchjepahgecgaaGreatDoor
