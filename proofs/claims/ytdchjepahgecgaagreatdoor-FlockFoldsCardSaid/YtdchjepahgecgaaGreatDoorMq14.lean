/- The walks of share.Owner, share.Parts. -/
import Derived.Test.YtdchjepahgecgaaGreatDoorMq13
namespace Go.Proofs.YtdchjepahgecgaaGreatDoor
open Go.RowKit

theorem assignP_len (parts : Int) (l : List (List UInt8)) : (assignP parts l).length ≤ 16 := by
  unfold assignP
  split
  · rename_i hok
    simp only [assignOk, goodB, Bool.and_eq_true, decide_eq_true_eq] at hok
    obtain ⟨⟨-, -, hl4⟩, h0, h1, h2⟩ := hok
    have hq : ∀ n : Int, n = parts - 1 → -1 ≤ n.tdiv l.length ∧ n.tdiv l.length ≤ 3 := by
      intro n hn
      have e1 : l.length = 1 ∨ l.length = 2 ∨ l.length = 3 ∨ l.length = 4 := by omega
      have e2 : n = -1 ∨ n = 0 ∨ n = 1 ∨ n = 2 ∨ n = 3 := by omega
      rcases e1 with e | e | e | e <;> rw [e] <;> rcases e2 with rfl | rfl | rfl | rfl | rfl <;> decide
    have hq' := hq _ rfl
    have := ownersTo_len_le (parts - 1) l.length l (by omega) l.length (fun i _ => by unfold shareN; split <;> omega)
    omega
  · simp

theorem find_some {α : Type} {q : α → Bool} {L : List α} {k : Nat} (hk : k < L.length) (h : q L[k] = true) (hno : ∀ j (hj : j < L.length), j < k → q L[j] = false) : L.find? q = some L[k] := by
  rw [List.find?_eq_some_iff_getElem]
  exact ⟨h, k, hk, rfl, fun j hj => by simp [hno j (by omega) hj]⟩
theorem find_none {α : Type} {q : α → Bool} {L : List α} (hno : ∀ j (hj : j < L.length), q L[j] = false) : L.find? q = none := by
  rw [List.find?_eq_none]
  intro x hx
  obtain ⟨j, hj, rfl⟩ := List.mem_iff_getElem.1 hx
  simp [hno j hj]

set_option maxRecDepth 100000 in
set_option maxHeartbeats 1000000 in
theorem SOwner_any {w : World} {v : Value} {l : List (List UInt8)} (h : Strs w v l) (parts p : Int) : Calls Tryz.prog 18 #[.int .i64 parts, v, .int .i64 p] w fun e w' => e = .returned (.tuple #[.string (bs (ownerP parts l p).1), .bool (ownerP parts l p).2]) ∧ Below w.heap.size w w' := by
  have hA := SAssign_any h parts
  obtain ⟨a, cap, rfl, -⟩ := h.cells
  obtain ⟨R, hR⟩ : ∃ R, ownerP parts l p = R := ⟨_, rfl⟩
  rw [hR]
  unfold ownerP at hR
  obtain ⟨L, hL⟩ : ∃ L, assignP parts l = L := ⟨_, rfl⟩
  rw [hL] at hA hR
  have HA := Lib.hid hA
  have HR := Lib.hid hR
  clear h hA hR hL
  go_enter Tryz.func18, Tryz.ntmps18
  go_wp2_with (first | (go_at_call 40; refine HA.out.mono ?_; rintro _ w1 ⟨v1, rfl, ho, hb1⟩; have ho' := ho; obtain ⟨oa, oc, rfl, -, hml, hC⟩ := ho'.cells))
  have hml' : (L.length : Int) ≤ 9223372036854775807 := by have : maxLen = 9223372036854775807 := rfl; omega
  have HC := Lib.hid (And.intro hC hb1)
  clear ho ho' hC hb1 HA
  go_loopg [14] L.length (fun gk i wr => ∃ k : Nat, k ≤ L.length ∧ gk = L.length - k ∧ i = .int .i64 k ∧ (∀ j (hj : j < L.length), j < k → (L[j].1 == p) = false) ∧ Below w1.heap.size w1 wr)
  case atStart => exact ⟨0, Nat.zero_le _, rfl, rfl, fun j _ h => absurd h (Nat.not_lt_zero j), Below.refl _ _⟩
  case round =>
    obtain ⟨k, hk, rfl, rfl, hall, hbel⟩ := hrel
    have HX := Lib.hid (And.intro hall hbel)
    have hsz := hbel.size
    clear hall
    by_cases hlt : k < L.length
    · obtain ⟨b, off, rfl, hb, c0, c1⟩ := HC.out.1 k hlt
      have c0 := below_some hbel c0 hb
      have c1 := below_some hbel c1 hb
      have i1 : (k : Int) < (L.length : Int) := by omega
      have i2 : (0 : Int) ≤ (k : Int) := by omega
      have hyes : L[k].1 = p → R = (L[k].2, true) := fun h => by rw [← HR.out, find_some hlt (by simpa using h) HX.out.1]
      have hno : ¬ L[k].1 = p → ∀ j (hj : j < L.length), j < k + 1 → (L[j].1 == p) = false := by
        intro h j hj hjk
        by_cases e : j = k
        · subst e; simpa using h
        · exact HX.out.1 j hj (by omega)
      have HY := Lib.hid (And.intro hyes hno)
      clear hyes hno hbel
      generalize L[k].1 = x at *
      generalize L[k].2 = y at *
      by_cases hx : x = p
      · subst hx
        have hRR := HY.out.1 rfl
        subst hRR
        go_wp2
        exact bodyPost_ret (v := .tuple #[.string (bs y), .bool true]) (by simp [results, Tryz.results18, go_sem]) rfl ⟨rfl, HC.out.2.trans ((HX.out.2.alloc hsz _).mono HC.out.2.size)⟩
      · go_wp2
        go_roundg (L.length - (k + 1))
        case measure => omega
        case rel => exact ⟨k + 1, by omega, rfl, by go_num, HY.out.2 hx, HX.out.2.alloc hsz _⟩
    · have i1 : ¬ (k : Int) < (L.length : Int) := by omega
      have hRR : R = ([], false) := by rw [← HR.out, find_none (fun j hj => HX.out.1 j hj (by omega))]
      subst hRR
      clear hbel
      go_wp2
      exact bodyPost_ret (v := .tuple #[.string ⟨#[]⟩, .bool false]) (by simp [results, Tryz.results18, go_sem]) rfl ⟨rfl, HC.out.2.trans (HX.out.2.mono HC.out.2.size)⟩

theorem take_filter {α : Type} {q : α → Bool} {L : List α} {k : Nat} (hk : k < L.length) : (L.take (k + 1)).filter q = (L.take k).filter q ++ (if q L[k] = true then [L[k]] else []) := by
  rw [List.take_succ_eq_append_getElem hk, List.filter_append]
  by_cases h : q L[k] = true <;> simp [h]

def PartsTo (w : World) (L : List Int) (e : Ending) (w' : World) : Prop := ∃ (a : Option Addr) (c : Nat), e = .returned (.slice a L.length c) ∧ w'.ownsRow w.heap.size 3 1 (.slice a L.length c) L.length (intCells L) ∧ Below w.heap.size w w'

set_option maxRecDepth 100000 in
set_option maxHeartbeats 1000000 in
theorem SParts_any {w : World} {v : Value} {l : List (List UInt8)} (h : Strs w v l) (parts : Int) (m : List UInt8) : Calls Tryz.prog 81 #[.int .i64 parts, v, .string (bs m)] w (PartsTo w (partsP parts l m)) := by
  have hA := SAssign_any h parts
  obtain ⟨a, cap, rfl, -⟩ := h.cells
  obtain ⟨L, hL⟩ : ∃ L, assignP parts l = L := ⟨_, rfl⟩
  unfold partsP
  rw [hL] at hA ⊢
  have hLs : L.length ≤ 1000 := by have := assignP_len parts l; rw [hL] at this; omega
  have HA := Lib.hid hA
  clear h hA hL
  obtain ⟨i1, ki, kz0, kz1, kz2⟩ := info_parts info_Int
  go_enter Tryz.func81, Tryz.ntmps81
  go_wp2_with (first | (go_at_call 40; refine HA.out.mono ?_; rintro _ w1 ⟨v1, rfl, ho, hb1⟩; have ho' := ho; obtain ⟨oa, oc, rfl, -, hml, hC⟩ := ho'.cells))
  have HC := Lib.hid (And.intro hC hb1)
  clear ho ho' hC hb1 HA hml
  go_loopg [7, 14] L.length (fun gk out i wr => ∃ (k : Nat) (M : List Int) (ra : Option Addr) (rc : Nat), k ≤ L.length ∧ gk = L.length - k ∧ i = .int .i64 k ∧ ((L.take k).filter (fun o => o.2 == m)).map (·.1) = M ∧ out = .slice ra M.length rc ∧ M.length ≤ k ∧
    wr.ownsRow w1.heap.size 3 1 (.slice ra M.length rc) M.length (intCells M) ∧ Below w1.heap.size w1 wr)
  case atStart => exact ⟨0, [], none, 0, Nat.zero_le _, rfl, rfl, rfl, rfl, Nat.zero_le _, World.ownsRow_nil _ _ _ _, Below.refl _ _⟩
  case round =>
    obtain ⟨k, M, ra, rc, hk, rfl, rfl, hM, rfl, hMk, hown, hbel⟩ := hrel
    have HX := Lib.hid (And.intro hM (And.intro hown hbel))
    have hsz := hbel.size
    clear hM hown
    by_cases hlt : k < L.length
    · obtain ⟨b, off, rfl, hb, c0, c1⟩ := HC.out.1 k hlt
      have c0 := below_some hbel c0 hb
      have c1 := below_some hbel c1 hb
      have i1' : (k : Int) < (L.length : Int) := by omega
      have i2 : (0 : Int) ≤ (k : Int) := by omega
      have htk := take_filter (q := fun o : Int × List UInt8 => o.2 == m) hlt
      have hyes : L[k].2 = m → ((L.take (k + 1)).filter (fun o => o.2 == m)).map (·.1) = M ++ [L[k].1] := fun h => by rw [htk, if_pos (by simpa using h), List.map_append, HX.out.1]; rfl
      have hno : ¬ L[k].2 = m → ((L.take (k + 1)).filter (fun o => o.2 == m)).map (·.1) = M := fun h => by rw [htk, if_neg (by simpa using h), List.append_nil, HX.out.1]
      have HY := Lib.hid (And.intro hyes hno)
      clear hyes hno hbel htk
      generalize L[k].1 = x at *
      generalize L[k].2 = y at *
      have hbq := beq_dec y m
      by_cases hy : y = m
      · rw [decide_eq_true hy] at hbq
        go_wp2_with (first | (at_builtin; refine wpList_append_lies _ rfl _ _ 37 rfl w1.heap.size 3 i1 _ 1 8 und_Ints ki kz0 kz1 kz2 rfl (by decide) (.slice ra M.length rc) M.length (intCells M) rfl ((HX.out.2.1.alloc _).alloc _) ⟨wr.heap.size + 1, 0, none⟩ 1 1 [.int .i64 x] rfl rfl (World.news_of_block (cs := #[.int .i64 x]) (t := 3) (fr := (0, 0)) (heap_new1 wr _ _)) (by simp [Value.oneCell']) (by decide) ?_ ?_ ?_ _ rfl ?_; (unfold maxLen; omega); (omega); (simp only [World.size_alloc]; omega); intro g7 cap7 w8 hown8 hgrow8 hat8 hlt8; have H8 := Lib.hid (And.intro hown8 hgrow8); clear hown8 hgrow8 hat8 hlt8))
        go_roundg (L.length - (k + 1))
        case measure => omega
        case rel =>
          refine ⟨k + 1, M ++ [x], some ⟨g7, 0, none⟩, cap7, by omega, rfl, by go_num, HY.out.1 hy, by simp, by simp; omega, ?_, ?_⟩
          · have := H8.out.1
            simpa [intCells] using this
          · exact HX.out.2.2.trans ((((upd_alloc (fun k => some k = (Value.slice ra M.length rc).ownBlock) wr _).trans (upd_alloc _ _ _)).trans (upd_grown H8.out.2)).toBelow hsz (fun k e => (owns_lt HX.out.2.1 k e.symm).1))
      · rw [decide_eq_false hy] at hbq
        go_wp2
        go_roundg (L.length - (k + 1))
        case measure => omega
        case rel => exact ⟨k + 1, M, ra, rc, by omega, rfl, by go_num, HY.out.2 hy, rfl, by omega, HX.out.2.1.alloc _, HX.out.2.2.alloc hsz _⟩
    · have hkl : k = L.length := by omega
      subst hkl
      have i1' : ¬ (L.length : Int) < (L.length : Int) := by omega
      have hM := HX.out.1
      rw [List.take_length] at hM
      have HM := Lib.hid hM
      clear hbel hM
      go_wp2
      exact bodyPost_ret (v := .slice ra M.length rc) (by simp [results, Tryz.results81, go_sem]) rfl ⟨ra, rc, by rw [HM.out], by rw [HM.out]; exact owns_mono HX.out.2.1 HC.out.2.size, HC.out.2.trans (HX.out.2.2.mono HC.out.2.size)⟩
end Go.Proofs.YtdchjepahgecgaaGreatDoor
