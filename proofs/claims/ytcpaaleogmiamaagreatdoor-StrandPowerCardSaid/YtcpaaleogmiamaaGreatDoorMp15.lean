/- The library's contracts at this dump's numbers (by the kit's lay-plain). -/
/- slices.Sorted(maps.Keys(m)) at a tape's files; tape.Names. -/
/- The walk of tape.kept. -/
/- tape.On in plain words: what is left of a tape's files. -/
import Derived.Shelf.SlIter.Nil
import Derived.Shelf.SlIter.Sorted
import Derived.Shelf.SortM.Plain
import Derived.Shelf.SortM.SortNone
import Derived.Ground.GgzProg
import Derived.Ground.SlgmProg
import Derived.Test.YtcpaaleogmiamaaGreatDoorProg
import Derived.Test.YtcpaaleogmiamaaGreatDoorMp9
namespace Go.Proofs.YtcpaaleogmiamaaGreatDoor
open Go.Shelf
def Tryz.keysT_ren : Go.Shelf.Ren := ⟨fun | 7 => 118 | 10 => 164 | n => n, fun | 23 => 127 | 26 => 9 | 3 => 148 | 28 => 190 | 0 => 0 | 27 => 189 | 33 => 175 | 4 => 4 | n => n, fun | n => n⟩
theorem Tryz.keysT : Go.Proofs.SlLaysZ.n7 Tryz.prog Tryz.keysT_ren := {
  mixed := by kernel_rfl
  f7 := ⟨Tryz.f118.name, by decide, Tryz.func118.trans (congrArg some (by kernel_rfl))⟩
  f10 := ⟨Tryz.f164.name, by decide, Tryz.func164.trans (congrArg some (by kernel_rfl))⟩
  t0 := Tryz.underlying0
  a0 := Tryz.isAgg0
  z0 := Tryz.sizeOf0
  v0 := Tryz.zeroValue0
  t4 := Tryz.underlying4
  a4 := Tryz.isAgg4
  z4 := Tryz.sizeOf4
  v4 := Tryz.zeroValue4
  t23 := Tryz.underlying127
  a23 := Tryz.isAgg127
  z23 := Tryz.sizeOf127
  v23 := Tryz.zeroValue127
  t26 := Tryz.underlying9
  a26 := Tryz.isAgg9
  z26 := Tryz.sizeOf9
  v26 := Tryz.zeroValue9
  t27 := Tryz.underlying189
  a27 := Tryz.isAgg189
  z27 := Tryz.sizeOf189
  v27 := Tryz.zeroValue189
  t28 := Tryz.underlying190
  a28 := Tryz.isAgg190
  z28 := Tryz.sizeOf190
  v28 := Tryz.zeroValue190
  t33 := Tryz.underlying175
  a33 := Tryz.isAgg175
  z33 := Tryz.sizeOf175
  v33 := Tryz.zeroValue175 }
def Tryz.sortedT_ren : Go.Shelf.Ren := ⟨fun | 6 => 117 | 8 => 162 | 9 => 163 | 11 => 202 | 13 => 204 | 12 => 203 | 23 => 245 | 24 => 246 | 14 => 236 | 15 => 237 | 16 => 238 | 17 => 239 | 18 => 240 | 19 => 241 | 20 => 242 | 21 => 243 | 22 => 244 | 25 => 265 | 26 => 266 | 27 => 267 | 28 => 268 | 29 => 269 | 30 => 270 | 31 => 283 | n => n, fun | 26 => 9 | 28 => 190 | 24 => 106 | 0 => 0 | 3 => 3 | 37 => 54 | 48 => 223 | 50 => 249 | 4 => 4 | 40 => 289 | 39 => 288 | 45 => 182 | 5 => 5 | 9 => 9 | 51 => 311 | 55 => 233 | 57 => 327 | 58 => 328 | 33 => 175 | n => n, fun | n => n⟩
theorem Tryz.sortedT : Go.Proofs.SlLaysZ.n6 Tryz.prog Tryz.sortedT_ren := {
  mixed := by kernel_rfl
  f6 := ⟨Tryz.f117.name, by decide, Tryz.func117.trans (congrArg some (by kernel_rfl))⟩
  f8 := ⟨Tryz.f162.name, by decide, Tryz.func162.trans (congrArg some (by kernel_rfl))⟩
  f11 := ⟨Tryz.f202.name, by decide, Tryz.func202.trans (congrArg some (by kernel_rfl))⟩
  t0 := Tryz.underlying0
  a0 := Tryz.isAgg0
  z0 := Tryz.sizeOf0
  v0 := Tryz.zeroValue0
  t24 := Tryz.underlying106
  a24 := Tryz.isAgg106
  z24 := Tryz.sizeOf106
  v24 := Tryz.zeroValue106
  t26 := Tryz.underlying9
  a26 := Tryz.isAgg9
  z26 := Tryz.sizeOf9
  v26 := Tryz.zeroValue9
  t28 := Tryz.underlying190
  a28 := Tryz.isAgg190
  z28 := Tryz.sizeOf190
  v28 := Tryz.zeroValue190
  i26 := by kernel_rfl }
def Tryz.sortT_ren : Go.Shelf.Ren := ⟨fun | 6 => 163 | 8 => 204 | 9 => 203 | 19 => 245 | 20 => 246 | 21 => 236 | 22 => 237 | 23 => 238 | 24 => 239 | 25 => 240 | 26 => 241 | 27 => 242 | 28 => 243 | 29 => 244 | 36 => 265 | 31 => 266 | 32 => 267 | 37 => 268 | 38 => 269 | 39 => 270 | 41 => 283 | n => n, fun | 27 => 106 | 29 => 9 | 3 => 3 | 32 => 54 | 26 => 106 | 0 => 0 | 44 => 223 | 46 => 249 | 4 => 4 | 36 => 289 | 35 => 288 | 41 => 182 | 5 => 5 | 9 => 9 | 53 => 311 | 57 => 233 | 63 => 327 | 64 => 328 | n => n, fun | n => n⟩
theorem Tryz.sortT : Go.Proofs.SlLaysM.n6 Tryz.prog Tryz.sortT_ren := {
  mixed := by kernel_rfl
  f6 := ⟨Tryz.f163.name, by decide, Tryz.func163.trans (congrArg some (by kernel_rfl))⟩
  f8 := Tryz.func204.trans (congrArg some (by kernel_rfl))
  f9 := ⟨Tryz.f203.name, by decide, Tryz.func203.trans (congrArg some (by kernel_rfl))⟩
  f19 := Tryz.func245.trans (congrArg some (by kernel_rfl))
  f20 := Tryz.func246.trans (congrArg some (by kernel_rfl))
  f21 := ⟨Tryz.f236.name, by decide, Tryz.func236.trans (congrArg some (by kernel_rfl))⟩
  f22 := ⟨Tryz.f237.name, by decide, Tryz.func237.trans (congrArg some (by kernel_rfl))⟩
  f23 := ⟨Tryz.f238.name, by decide, Tryz.func238.trans (congrArg some (by kernel_rfl))⟩
  f24 := ⟨Tryz.f239.name, by decide, Tryz.func239.trans (congrArg some (by kernel_rfl))⟩
  f25 := ⟨Tryz.f240.name, by decide, Tryz.func240.trans (congrArg some (by kernel_rfl))⟩
  f26 := ⟨Tryz.f241.name, by decide, Tryz.func241.trans (congrArg some (by kernel_rfl))⟩
  f27 := ⟨Tryz.f242.name, by decide, Tryz.func242.trans (congrArg some (by kernel_rfl))⟩
  f28 := ⟨Tryz.f243.name, by decide, Tryz.func243.trans (congrArg some (by kernel_rfl))⟩
  f29 := ⟨Tryz.f244.name, by decide, Tryz.func244.trans (congrArg some (by kernel_rfl))⟩
  f31 := Tryz.func266.trans (congrArg some (by kernel_rfl))
  f32 := Tryz.func267.trans (congrArg some (by kernel_rfl))
  f36 := ⟨Tryz.f265.name, by decide, Tryz.func265.trans (congrArg some (by kernel_rfl))⟩
  f37 := ⟨Tryz.f268.name, by decide, Tryz.func268.trans (congrArg some (by kernel_rfl))⟩
  f38 := ⟨Tryz.f269.name, by decide, Tryz.func269.trans (congrArg some (by kernel_rfl))⟩
  f39 := ⟨Tryz.f270.name, by decide, Tryz.func270.trans (congrArg some (by kernel_rfl))⟩
  f41 := ⟨Tryz.f283.name, by decide, Tryz.func283.trans (congrArg some (by kernel_rfl))⟩
  t0 := Tryz.underlying0
  a0 := Tryz.isAgg0
  z0 := Tryz.sizeOf0
  v0 := Tryz.zeroValue0
  t3 := Tryz.underlying3
  a3 := Tryz.isAgg3
  z3 := Tryz.sizeOf3
  v3 := Tryz.zeroValue3
  t4 := Tryz.underlying4
  a4 := Tryz.isAgg4
  z4 := Tryz.sizeOf4
  v4 := Tryz.zeroValue4
  t5 := Tryz.underlying5
  a5 := Tryz.isAgg5
  z5 := Tryz.sizeOf5
  v5 := Tryz.zeroValue5
  t9 := Tryz.underlying9
  a9 := Tryz.isAgg9
  z9 := Tryz.sizeOf9
  v9 := Tryz.zeroValue9
  t26 := Tryz.underlying106
  a26 := Tryz.isAgg106
  z26 := Tryz.sizeOf106
  v26 := Tryz.zeroValue106
  t27 := Tryz.underlying106
  a27 := Tryz.isAgg106
  z27 := Tryz.sizeOf106
  v27 := Tryz.zeroValue106
  t29 := Tryz.underlying9
  a29 := Tryz.isAgg9
  z29 := Tryz.sizeOf9
  v29 := Tryz.zeroValue9
  t32 := Tryz.underlying54
  a32 := Tryz.isAgg54
  z32 := Tryz.sizeOf54
  v32 := Tryz.zeroValue54
  t35 := Tryz.underlying288
  a35 := Tryz.isAgg288
  z35 := Tryz.sizeOf288
  v35 := Tryz.zeroValue288
  t36 := Tryz.underlying289
  a36 := Tryz.isAgg289
  z36 := Tryz.sizeOf289
  v36 := Tryz.zeroValue289
  t41 := Tryz.underlying182
  a41 := Tryz.isAgg182
  z41 := Tryz.sizeOf182
  v41 := Tryz.zeroValue182
  t44 := Tryz.underlying223
  a44 := Tryz.isAgg223
  z44 := Tryz.sizeOf223
  v44 := Tryz.zeroValue223
  t46 := Tryz.underlying249
  a46 := Tryz.isAgg249
  z46 := Tryz.sizeOf249
  v46 := Tryz.zeroValue249
  t53 := Tryz.underlying311
  a53 := Tryz.isAgg311
  z53 := Tryz.sizeOf311
  v53 := Tryz.zeroValue311
  t57 := Tryz.underlying233
  a57 := Tryz.isAgg233
  z57 := Tryz.sizeOf233
  v57 := Tryz.zeroValue233
  t63 := Tryz.underlying327
  a63 := Tryz.isAgg327
  z63 := Tryz.sizeOf327
  v63 := Tryz.zeroValue327
  t64 := Tryz.underlying328
  a64 := Tryz.isAgg328
  z64 := Tryz.sizeOf328
  v64 := Tryz.zeroValue328 }
end Go.Proofs.YtcpaaleogmiamaaGreatDoor
namespace Go.Proofs.YtcpaaleogmiamaaGreatDoor
open Go.RowKit Go.Maps Go.Sort Go.Shelf

theorem sortsT (m : Nat) : AnyZ.SortsIn Tryz.prog Tryz.sortedT_ren Fence.wide m :=
  ⟨fun blk off cap ss W hH hblk hsz => callsIn_wide.2 (AnyM.slices_Sort_string Tryz.sortT blk off cap ss W hH hblk hsz),
   fun p cap W => callsIn_wide.2 (AnyM.slices_Sort_string_none Tryz.sortT p cap W)⟩

/-- How an element of the map reads: as nothing (for its keys alone). -/
def anyElem {H : Type} (_ : Value) : Option (DataW H × List MemPlace) := some (.lit (.bool true), [])

theorem insert_perm {H : Type} (x : Lit × DataW H) (l : List (Lit × DataW H)) : (DataW.insert x l).Perm (x :: l) := by
  induction l with
  | nil => exact List.Perm.refl _
  | cons y r ih =>
    unfold DataW.insert
    split
    · exact List.Perm.refl _
    · exact (List.Perm.cons y ih).trans (List.Perm.swap x y r)

theorem foldr_insert_perm {H : Type} (l : List (Lit × DataW H)) : (l.foldr DataW.insert []).Perm l := by
  induction l with
  | nil => exact List.Perm.refl _
  | cons x l ih => exact (insert_perm x _).trans (List.Perm.cons x ih)

theorem strOf_bs (l : List UInt8) : (bs l).data.toList = l := bs_data l
theorem owns_of_mapSt {w : World} {B : Nat} {m : SMap} (h : MapSt w B m) (hn : ∀ p ∈ m, p.1.length ≤ maxLen) (hl : m.length ≤ maxLen) :
    ∃ D : DataW Unit, w.ownsMap Tryz.prog 9 anyElem B m.length D ∧ Maps.size D = m.length ∧ ∀ ss : List (List UInt8), ss.Perm (strKeys D) → ss.Perm (m.map (·.1)) := by
  obtain ⟨es, clock, hb, he, hst⟩ := h
  have hlen : es.size = m.length := by have := congrArg List.length he; simpa using this
  have hk : ∀ x ∈ es.toList, ∃ p ∈ m, x.key = .string (bs p.1) := by
    intro x hx
    have h1 : (x.key, x.val) ∈ m.map (fun p => (Value.string (bs p.1), p.2)) := by rw [← he]; exact List.mem_map.2 ⟨x, hx, rfl⟩
    obtain ⟨p, hp, hpe⟩ := List.mem_map.1 h1
    simp only [Prod.mk.injEq] at hpe
    exact ⟨p, hp, hpe.1.symm⟩
  have hrd : ∀ x ∈ es.toList, ∀ p ∈ m, x.key = .string (bs p.1) → WideElems.rd (H := Unit) Tryz.prog 9 anyElem x = some (.string p.1, .lit (.bool true)) := by
    intro x hx p hp e
    have hs : (bs p.1).size ≤ maxLen := by rw [bs_size]; exact hn p hp
    simp [WideElems.rd, e, keyOf, mapKey, anyElem, bs_data, hs]
  refine ⟨_, ⟨es, clock, hb, ⟨by omega, hst, ?_⟩, by omega, rfl⟩, ?_, ?_⟩
  · intro x hx
    obtain ⟨p, hp, e⟩ := hk x hx
    exact ⟨_, hrd x hx p hp e⟩
  · show ((es.toList.map _).foldr DataW.insert []).length = _
    rw [(foldr_insert_perm _).length_eq]; simpa using hlen
  · intro ss hss
    refine hss.trans ?_
    show (((es.toList.map _).foldr DataW.insert []).map fun p => Go.strOf p.1).Perm _
    refine ((foldr_insert_perm _).map _).trans ?_
    rw [List.map_map]
    have e2 : es.toList.map ((fun p => Go.strOf p.1) ∘ WideElems.rg (H := Unit) Tryz.prog 9 anyElem) = es.toList.map (fun x => match x.key with | .string s => s.data.toList | _ => []) := by
      apply List.map_congr_left
      intro x hx
      obtain ⟨p, hp, e⟩ := hk x hx
      simp [WideElems.rg, hrd x hx p hp e, e, Go.strOf, bs_data]
    rw [e2]
    have e3 := congrArg (fun l => l.map (fun y : Value × Value => match y.1 with | .string s => s.data.toList | _ => [])) he
    simp only [List.map_map] at e3
    have e4 : es.toList.map (fun x => match x.key with | .string s => s.data.toList | _ => []) = m.map (·.1) := by
      simpa [Function.comp_def, bs_data] using e3
    rw [e4]

/-- What slices.Sorted(maps.Keys(m)) hands back. -/
def SortedNames (w : World) (ks : List (List UInt8)) (e : Ending) (w' : World) : Prop :=
  ∃ v, e = .returned v ∧ w'.ownsRow w.heap.size 9 1 v ks.length ((ks.mergeSort (fun x y => decide (x ≤ y))).map (fun l => Value.string (bs l))) ∧ Below w.heap.size w w'

theorem KeysT_any (mb : Option Nat) (w : World) : Calls Tryz.prog 118 #[.map mb] w fun e w' =>
    e = .returned (.func (.func 164) #[] #[.pointer (some ⟨w.heap.size, 0, none⟩)]) ∧ w' = w.alloc (.cells #[.map mb] 127) :=
  (callsIn_wide (n := 5)).1 (AnyZ.keys_in Tryz.keysT Fence.wide 5 trivial rfl mb w)

theorem SortedT_any {w : World} {B : Nat} {m : SMap} (h : MapSt w B m) (hn : ∀ p ∈ m, p.1.length ≤ maxLen) (hl : m.length ≤ 1000000) :
    Calls Tryz.prog 117 #[.func (.func 164) #[] #[.pointer (some ⟨w.heap.size, 0, none⟩)]] (w.alloc (.cells #[.map (some B)] 127))
      (SortedNames (w.alloc (.cells #[.map (some B)] 127)) (m.map (·.1))) := by
  obtain ⟨D, hown, hsz, hperm⟩ := owns_of_mapSt h hn (by unfold maxLen; omega)
  have hbl := hown.lt
  have hseq : SeqGives Fence.wide 2 Tryz.prog 164 #[.pointer (some ⟨w.heap.size, 0, none⟩)] encStr (fun ss => ss.Perm (strKeys D)) (Maps.size D) (w.alloc (.cells #[.map (some B)] 127)) :=
    AnyZ.keys_gives (ρ := Tryz.keysT_ren) { Tryz.keysT with } Fence.wide _ trivial rfl (by omega) w.heap.size B m.length D _ (by simp) (by simp) (by
      obtain ⟨es, clock, hb, Ft, hs, hD⟩ := hown
      exact ⟨es, clock, (Below.heap_alloc _ _ B hbl).trans hb, Ft, hs, hD⟩)
  have cS := AnyZ.sorted_in Tryz.sortedT Fence.wide 5 trivial trivial trivial trivial rfl (by omega) (sortsT _) (enters_of Tryz.func163 (by kernel_rfl) rfl) 164 #[.pointer (some ⟨w.heap.size, 0, none⟩)] trivial (enters_of Tryz.func164 (by kernel_rfl) rfl) _ _ (by rw [hsz]; unfold maxLen; omega) (by rw [hsz]; omega) _ hseq
  refine ((callsIn_wide (n := 5)).1 cS).mono ?_
  rintro e w' ⟨v, ss, rfl, hS, hrow, -, hb⟩
  have hp := hperm ss hS
  refine ⟨v, rfl, ?_, hb⟩
  have hms := mergeSort_of_perm hp
  rw [← hms, ← hp.length_eq]
  exact hrow

def namesV (t : Tp) : List (List UInt8) := (t.files.map (·.1)).mergeSort (fun x y => decide (x ≤ y))
set_option maxRecDepth 100000 in
theorem TNames_any {w : World} {b mb : Nat} {L : TpL} {t : Tp} (h : TpAt w b mb L t) (hn : ∀ x ∈ t.files, x.1.length ≤ 32) : Calls Tryz.prog 48 #[.pointer (some ⟨b, 0, none⟩)] w fun e w' =>
    ∃ v, e = .returned v ∧ w'.ownsRow w.heap.size 9 1 v (namesV t).length ((namesV t).map (fun l => Value.string (bs l))) ∧ Below w.heap.size w w' := by
  have hk : (tpMap L).map (·.1) = t.files.map (·.1) := by rw [h.eq]; simp [tpMap, tpFiles, List.map_map, Function.comp_def]
  have hl : (tpMap L).length ≤ 1000000 := by
    have := h.ok.few
    have e := congrArg List.length hk
    simp only [List.length_map] at e ⊢
    omega
  have hm : ∀ p ∈ tpMap L, p.1.length ≤ maxLen := by
    intro p hp
    obtain ⟨x, hx, rfl⟩ := List.mem_map.1 hp
    have : (x.1, x.2.2) ∈ t.files := by rw [h.eq]; exact List.mem_map.2 ⟨x, hx, rfl⟩
    have := hn _ this
    simp only at this ⊢
    unfold maxLen
    omega
  have hS := SortedT_any h.map hm hl
  rw [hk] at hS
  have c0 := h.cells.1
  have hlen : (t.files.map (·.1)).length = (namesV t).length := by simp [namesV]
  have HS := Lib.hid hS
  have HL := Lib.hid hlen
  clear h hS hm hl hk hlen hn
  go_enter Tryz.func48, Tryz.ntmps48
  go_wp2_with (first
    | (go_at_call 118; refine (KeysT_any _ _).mono ?_; rintro _ w1 ⟨rfl, rfl⟩)
    | (go_at_call 117; refine HS.out.mono ?_; rintro _ w2 ⟨v, rfl, hrow, hb⟩))
  go_ret
  refine ⟨v, rfl, ?_, below_trans (below_alloc _ _) hb⟩
  rw [← HL.out]
  exact owns_mono hrow (by simp)
end Go.Proofs.YtcpaaleogmiamaaGreatDoor
namespace Go.Proofs.YtcpaaleogmiamaaGreatDoor
open Go.RowKit

set_option maxRecDepth 100000 in
theorem Tkept_any (x : Int) (k : Nat) (hk : k ≤ 4194304) (w : World) : Calls Tryz.prog 82 #[.int .i64 x, .int .i64 (k : Int)] w fun e w' => ∃ f : Nat, f ≤ k ∧ e = .returned (.int .i64 (f : Int)) ∧ w' = w := by
  have k0 : ¬ (k : Int) + 1 = 0 := by omega
  have k1 : IntKind.i64.wrap ((k : Int) + 1) = (k : Int) + 1 := IntWalk.i64_in _ (by omega)
  have k2 : wrap64 ((k : Int) + 1) = (k : Int) + 1 := by unfold wrap64; omega
  have hb1 : x.tmod ((k : Int) + 1) < (k : Int) + 1 := Int.tmod_lt_of_pos _ (by omega)
  have hb2 : -((k : Int) + 1) < x.tmod ((k : Int) + 1) := Int.lt_tmod_of_pos _ (by omega)
  go_enter Tryz.func82, Tryz.ntmps82
  go_wp2
  · rename_i h1
    go_ret
    exact ⟨(x.tmod ((k : Int) + 1) + ((k : Int) + 1)).toNat, by omega, congrArg (fun z => Ending.returned (.int .i64 z)) (Int.toNat_of_nonneg (by omega)).symm, rfl⟩
  · rename_i h1
    go_ret
    exact ⟨(x.tmod ((k : Int) + 1)).toNat, by omega, congrArg (fun z => Ending.returned (.int .i64 z)) (Int.toNat_of_nonneg (by omega)).symm, rfl⟩
end Go.Proofs.YtcpaaleogmiamaaGreatDoor
namespace Go.Proofs.YtcpaaleogmiamaaGreatDoor
open Go.RowKit

/-- A file of which so much more than the safe part is kept. -/
def onF (g : Nat) (f : Fl) : Fl := ⟨f.data.take (f.safe + g), f.safe + g⟩
def KeptF (f f' : Fl) : Prop := ∃ g, f.safe + g ≤ f.data.length ∧ f' = onF g f

theorem KeptF.trans {a b c : Fl} (h : KeptF a b) (k : KeptF b c) : KeptF a c := by
  obtain ⟨g, h1, rfl⟩ := h
  obtain ⟨g2, h2, rfl⟩ := k
  simp only [onF, List.length_take] at h2
  have : g2 = 0 := by omega
  subst this
  refine ⟨g, h1, ?_⟩
  simp only [onF, Nat.add_zero, List.take_take, Nat.min_self]
theorem KeptF.full {f : Fl} (h : f.data.length - f.safe = 0) (hs : f.safe ≤ f.data.length) : KeptF f f := by
  refine ⟨0, by omega, ?_⟩
  obtain ⟨d, s⟩ := f
  simp only [onF, Nat.add_zero] at *
  rw [List.take_of_length_le (by omega)]

/-- Two lists, element by element. -/
inductive All2 {α β : Type} (R : α → β → Prop) : List α → List β → Prop
  | nil : All2 R [] []
  | cons {a : α} {b : β} {l : List α} {m : List β} : R a b → All2 R l m → All2 R (a :: l) (b :: m)

/-- Files, some of which (those of the names in 'done' at least) are cut. -/
def OnR (done : List (List UInt8)) (l l' : List (List UInt8 × Fl)) : Prop := All2 (fun x y => y.1 = x.1 ∧ (KeptF x.2 y.2 ∨ (y.2 = x.2 ∧ x.1 ∉ done))) l l'

theorem OnR.start (l : List (List UInt8 × Fl)) : OnR [] l l := by
  unfold OnR
  induction l with
  | nil => exact .nil
  | cons x l ih => exact .cons ⟨rfl, .inr ⟨rfl, by simp⟩⟩ ih
theorem OnR.step {done : List (List UInt8)} {n : List UInt8} {g : Nat} {l l' : List (List UInt8 × Fl)} (h : OnR done l l') (hg : ∀ y ∈ l', y.1 = n → y.2.safe + g ≤ y.2.data.length) : OnR (done ++ [n]) l (updF l' n (onF g)) := by
  unfold OnR at *
  induction h with
  | nil => exact .nil
  | @cons x y l l' hxy _ ih =>
    refine .cons ?_ (ih (fun z hz => hg z (List.mem_cons_of_mem _ hz)))
    obtain ⟨e, hk⟩ := hxy
    by_cases hn : y.1 = n
    · simp only [if_pos hn]
      have hy : KeptF y.2 (onF g y.2) := ⟨g, hg y (List.mem_cons_self ..) hn, rfl⟩
      refine ⟨e, .inl ?_⟩
      rcases hk with hk | ⟨hk, -⟩
      · exact hk.trans hy
      · rw [← hk]; exact hy
    · simp only [if_neg hn]
      refine ⟨e, hk.imp id (fun hk => ⟨hk.1, ?_⟩)⟩
      simp only [List.mem_append, List.mem_singleton, not_or]
      exact ⟨hk.2, by rw [← e]; exact hn⟩
/-- A file that is safe whole stays as it is. -/
theorem OnR.skip {done : List (List UInt8)} {n : List UInt8} {l l' : List (List UInt8 × Fl)} (h : OnR done l l') (hg : ∀ y ∈ l', y.1 = n → y.2.data.length - y.2.safe = 0 ∧ y.2.safe ≤ y.2.data.length) : OnR (done ++ [n]) l l' := by
  unfold OnR at *
  induction h with
  | nil => exact .nil
  | @cons x y l l' hxy _ ih =>
    refine .cons ?_ (ih (fun z hz => hg z (List.mem_cons_of_mem _ hz)))
    obtain ⟨e, hk⟩ := hxy
    refine ⟨e, ?_⟩
    rcases hk with hk | ⟨hk, hd⟩
    · exact .inl hk
    · by_cases hn : y.1 = n
      · obtain ⟨h1, h2⟩ := hg y (List.mem_cons_self ..) hn
        rw [hk] at h1 h2 ⊢
        exact .inl (KeptF.full h1 h2)
      · refine .inr ⟨hk, ?_⟩
        simp only [List.mem_append, List.mem_singleton, not_or]
        exact ⟨hd, by rw [← e]; exact hn⟩
theorem OnR.done {done : List (List UInt8)} {l l' : List (List UInt8 × Fl)} (h : OnR done l l') (hd : ∀ x ∈ l, x.1 ∈ done) : All2 (fun x y => y.1 = x.1 ∧ KeptF x.2 y.2) l l' := by
  unfold OnR at h
  induction h with
  | nil => exact .nil
  | @cons x y l l' hxy _ ih =>
    refine .cons ⟨hxy.1, hxy.2.elim id (fun hk => absurd (hd x (List.mem_cons_self ..)) hk.2)⟩ (ih (fun z hz => hd z (List.mem_cons_of_mem _ hz)))
end Go.Proofs.YtcpaaleogmiamaaGreatDoor
