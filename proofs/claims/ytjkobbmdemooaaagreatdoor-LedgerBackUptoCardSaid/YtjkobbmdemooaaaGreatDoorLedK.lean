/- slices.Sorted(maps.Keys(m)) at a ledger's map. -/
import Derived.Test.YtjkobbmdemooaaaGreatDoorShelfLed
import Derived.Test.YtjkobbmdemooaaaGreatDoorLedW4
namespace Go.Proofs.YtjkobbmdemooaaaGreatDoor
open Go.RowKit Go.Maps Go.Sort Go.Shelf

theorem sortsA (m : Nat) : AnyZI.SortsIn Tryz.prog Tryz.sortedA_ren Fence.wide m :=
  ⟨fun blk off cap ss W hH hblk hsz => callsIn_wide.2 (AnyM.slices_Sort_int Tryz.sortA blk off cap ss W hH hblk hsz),
   fun p cap W => callsIn_wide.2 (AnyM.slices_Sort_int_none Tryz.sortA p cap W)⟩

/-- How an element of the map reads: as nothing (for its keys alone). -/
def anyElem {H : Type} (_ : Value) : Option (DataW H × List MemPlace) := some (.lit (.bool true), [])

theorem insert_perm {H : Type} (x : Lit × DataW H) (l : List (Lit × DataW H)) : (DataW.insert x l).Perm (x :: l) := by
  induction l with
  | nil => exact List.Perm.refl _
  | cons y r ih =>
    unfold DataW.insert
    split
    · exact List.Perm.refl _
    · exact (List.Perm.cons y ih).trans (List.Perm.swap x y r)

theorem foldr_insert_perm {H : Type} (l : List (Lit × DataW H)) : (l.foldr DataW.insert []).Perm l := by
  induction l with
  | nil => exact List.Perm.refl _
  | cons x l ih => exact (insert_perm x _).trans (List.Perm.cons x ih)

theorem owns_of_mapIs {w : World} {B : Nat} {m : List (Int × Value)} (h : MapIs w B m) (hwf : ∀ p ∈ m, (Lit.int .i64 p.1).wf = true) (hl : m.length ≤ maxLen) :
    ∃ D : DataW Unit, w.ownsMap Tryz.prog 3 anyElem B m.length D ∧ Maps.size D = m.length ∧ ∀ ss : List Int, ss.Perm (intKeys D) → ss.Perm (m.map (·.1)) := by
  obtain ⟨es, clock, hb, he, hst⟩ := h
  have hlen : es.size = m.length := by have := congrArg List.length he; simpa using this
  have hk : ∀ x ∈ es.toList, ∃ p ∈ m, x.key = .int .i64 p.1 := by
    intro x hx
    have h1 : (x.key, x.val) ∈ m.map (fun p => (Value.int .i64 p.1, p.2)) := by rw [← he]; exact List.mem_map.2 ⟨x, hx, rfl⟩
    obtain ⟨p, hp, hpe⟩ := List.mem_map.1 h1
    simp only [Prod.mk.injEq] at hpe
    exact ⟨p, hp, hpe.1.symm⟩
  have hrd : ∀ x ∈ es.toList, ∀ p ∈ m, x.key = .int .i64 p.1 → WideElems.rd (H := Unit) Tryz.prog 3 anyElem x = some (.int .i64 p.1, .lit (.bool true)) := by
    intro x hx p hp e
    simp [WideElems.rd, e, keyOf_int_mk und_int (hwf p hp), anyElem]
  refine ⟨_, ⟨es, clock, hb, ⟨by omega, hst, ?_⟩, by omega, rfl⟩, ?_, ?_⟩
  · intro x hx
    obtain ⟨p, hp, e⟩ := hk x hx
    exact ⟨_, hrd x hx p hp e⟩
  · show ((es.toList.map _).foldr DataW.insert []).length = _
    rw [(foldr_insert_perm _).length_eq]; simpa using hlen
  · intro ss hss
    refine hss.trans ?_
    show (((es.toList.map _).foldr DataW.insert []).map fun p => Go.intOf p.1).Perm _
    refine ((foldr_insert_perm _).map _).trans ?_
    rw [List.map_map]
    have e2 : es.toList.map ((fun p => Go.intOf p.1) ∘ WideElems.rg (H := Unit) Tryz.prog 3 anyElem) = es.toList.map (fun x => match x.key with | .int _ n => n | _ => 0) := by
      apply List.map_congr_left
      intro x hx
      obtain ⟨p, hp, e⟩ := hk x hx
      simp [WideElems.rg, hrd x hx p hp e, e, Go.intOf]
    rw [e2]
    have e3 := congrArg (fun l => l.map (fun y : Value × Value => match y.1 with | .int _ n => n | _ => 0)) he
    simp only [List.map_map] at e3
    have e4 : es.toList.map (fun x => match x.key with | .int _ n => n | _ => 0) = m.map (·.1) := by
      simpa [Function.comp_def] using e3
    rw [e4]

/-- What slices.Sorted(maps.Keys(m)) hands back. -/
def SortedKeys (w : World) (ks : List Int) (e : Ending) (w' : World) : Prop :=
  ∃ v, e = .returned v ∧ w'.ownsRow w.heap.size 3 1 v ks.length ((ks.mergeSort (fun x y => decide (x ≤ y))).map (Value.int .i64)) ∧ Below w.heap.size w w'

theorem Keys_any (mb : Option Nat) (w : World) : Calls Tryz.prog 73 #[.map mb] w fun e w' =>
    e = .returned (.func (.func 100) #[] #[.pointer (some ⟨w.heap.size, 0, none⟩)]) ∧ w' = w.alloc (.cells #[.map mb] 107) :=
  (callsIn_wide (n := 5)).1 (AnyZI.keys_in Tryz.keysA Fence.wide 5 trivial rfl mb w)

theorem Sorted_any {w : World} {B : Nat} {m : List (Int × Value)} (h : MapIs w B m) (hwf : ∀ p ∈ m, isNumB p.1 = true) (hl : m.length ≤ 1000000) :
    Calls Tryz.prog 72 #[.func (.func 100) #[] #[.pointer (some ⟨w.heap.size, 0, none⟩)]] (w.alloc (.cells #[.map (some B)] 107))
      (SortedKeys (w.alloc (.cells #[.map (some B)] 107)) (m.map (·.1))) := by
  obtain ⟨D, hown, hsz, hperm⟩ := owns_of_mapIs h (fun p hp => by
    have := hwf p hp
    simp only [isNumB, Bool.and_eq_true, decide_eq_true_eq] at this
    exact WalkArith.wf_i64 (by omega)) (by unfold maxLen; omega)
  have hbl := hown.lt
  have hseq : SeqGives Fence.wide 2 Tryz.prog 100 #[.pointer (some ⟨w.heap.size, 0, none⟩)] encZ (fun ss => ss.Perm (intKeys D)) (Maps.size D) (w.alloc (.cells #[.map (some B)] 107)) :=
    AnyZI.keys_gives (ρ := Tryz.keysA_ren) { Tryz.keysA with } Fence.wide _ trivial rfl (by omega) w.heap.size B m.length D _ (by simp) (by simp) (by
      obtain ⟨es, clock, hb, Ft, hs, hD⟩ := hown
      exact ⟨es, clock, (Below.heap_alloc _ _ B hbl).trans hb, Ft, hs, hD⟩)
  have cS := AnyZI.sorted_in Tryz.sortedA Fence.wide 5 trivial trivial trivial trivial rfl (by omega) (sortsA _) (enters_of Tryz.func99 (by kernel_rfl) rfl) 100 #[.pointer (some ⟨w.heap.size, 0, none⟩)] trivial (enters_of Tryz.func100 (by kernel_rfl) rfl) _ _ (by rw [hsz]; unfold maxLen; omega) (by rw [hsz]; omega) _ hseq
  refine ((callsIn_wide (n := 5)).1 cS).mono ?_
  rintro e w' ⟨v, ss, rfl, hS, hrow, -, hb⟩
  have hp := hperm ss hS
  refine ⟨v, rfl, ?_, hb⟩
  rw [← mergeSort_of_perm_i hp, ← hp.length_eq]
  exact hrow
end Go.Proofs.YtjkobbmdemooaaaGreatDoor
