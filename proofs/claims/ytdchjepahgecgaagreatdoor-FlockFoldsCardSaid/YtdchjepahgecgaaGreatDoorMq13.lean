/- The walk of share.Assign. -/
import Derived.Test.YtdchjepahgecgaaGreatDoorMq9
namespace Go.Proofs.YtdchjepahgecgaaGreatDoor
open Go.RowKit

def owEl (o : Int × List UInt8) : List Value := [.int .i64 o.1, .string (bs o.2)]
theorem owEl_len (o : Int × List UInt8) : (owEl o).length = 2 := rfl
def owCells (l : List (Int × List UInt8)) : List Value := l.flatMap owEl
theorem owCells_length (l : List (Int × List UInt8)) : (owCells l).length = l.length * 2 := fl_len owEl_len l
def OwnersRd (w : World) (v : Value) (l : List (Int × List UInt8)) : Prop := Rd w 2 v l.length (owCells l)
theorem OwnersRd.below {w w' : World} {v : Value} {l : List (Int × List UInt8)} (h : OwnersRd w v l) (hb : Below w.heap.size w w') : OwnersRd w' v l := Rd.below h hb
theorem OwnersRd.cells {w : World} {v : Value} {l : List (Int × List UInt8)} (h : OwnersRd w v l) : ∃ a cap, v = .slice a l.length cap ∧ l.length ≤ cap ∧ l.length ≤ maxLen ∧
    ∀ k (_ : k < l.length), ∃ b off, a = some ⟨b, off, none⟩ ∧ b < w.heap.size ∧ w.cell? ⟨b, off + k * 2, none⟩ = some (.int .i64 l[k].1) ∧ w.cell? ⟨b, off + k * 2 + 1, none⟩ = some (.string (bs l[k].2)) := by
  obtain ⟨a, cap, rfl, hc⟩ := Rd.shape h
  refine ⟨a, cap, rfl, hc, Rd.maxlen h, ?_⟩
  intro k hk
  obtain ⟨b, off, cap, e, _, _, hb, hc⟩ := Rd.at h (by omega)
  simp only [Value.slice.injEq, true_and] at e
  exact ⟨b, off, e.1, hb, hc _ _ (fl_at owEl_len l k hk 0 _ rfl), hc _ _ (fl_at owEl_len l k hk 1 _ rfl)⟩

theorem und_Owners : Tryz.prog.underlying 80 = some (.slice 83) := by kernel_rfl
theorem info_Owner : (Tryz.prog.info? 83).map (fun i => (i.zero, i.size, i.bytes)) = some (some (.agg #[.int .i64 0, .string ⟨#[]⟩]), 2, 24) := by kernel_rfl

theorem ownersTo_len_le (n m : Int) (l : List (List UInt8)) (hm : n ≤ 3) : ∀ k, (∀ i, i < k → shareN n m i ≤ 4) → (ownersTo n m l k).length ≤ k * 4
  | 0, _ => Nat.le_refl _
  | k + 1, h => by
    have h1 := ownersTo_len_le n m l hm k (fun i hi => h i (by omega))
    have h2 := h k (by omega)
    simp only [ownersTo, List.length_append, List.length_map, List.length_range]
    omega

def AssignTo (w : World) (L : List (Int × List UInt8)) (e : Ending) (w' : World) : Prop := ∃ v, e = .returned v ∧ OwnersRd w' v L ∧ Below w.heap.size w w'

set_option maxRecDepth 100000 in
set_option maxHeartbeats 2000000 in
theorem SAssign_any {w : World} {v : Value} {l : List (List UInt8)} (h : Strs w v l) (parts : Int) : Calls Tryz.prog 40 #[.int .i64 parts, v] w (AssignTo w (assignP parts l)) := by
  have hGd := SGood_any h
  obtain ⟨a, cap, rfl, -, hml, hC⟩ := h.cells
  have hml' : (l.length : Int) ≤ 9223372036854775807 := by have : maxLen = 9223372036854775807 := rfl; omega
  have HGd := Lib.hid hGd
  have HC := Lib.hid hC
  have hempty : ∀ W, OwnersRd W (.slice none 0 0) [] := fun W => ⟨rfl, .inl ⟨rfl, rfl⟩⟩
  clear h hGd hC hml
  cases hg : goodB l with
  | false =>
    have hP : assignP parts l = [] := by simp [assignP, assignOk, hg]
    rw [hP]
    rw [hg] at HGd
    clear hg hP
    go_enter Tryz.func40, Tryz.ntmps40
    go_wp2_with (first | (go_at_call 53; refine HGd.out.mono ?_; rintro _ w1 ⟨rfl, hb1⟩))
    exact bodyPost_ret (v := .slice none 0 0) (by simp [results, Tryz.results40, go_sem]) rfl ⟨_, rfl, hempty _, hb1⟩
  | true =>
    rw [hg] at HGd
    by_cases h0 : l.length = 0
    · have hP : assignP parts l = [] := by simp [assignP, assignOk, h0]
      have h0' : (l.length : Int) = 0 := by omega
      have hd : decide ((l.length : Int) = 0) = true := decide_eq_true h0'
      rw [hP]
      clear hg hP h0
      go_enter Tryz.func40, Tryz.ntmps40
      go_wp2_with (first | (go_at_call 53; refine HGd.out.mono ?_; rintro _ w1 ⟨rfl, hb1⟩))
      exact bodyPost_ret (v := .slice none 0 0) (by simp [results, Tryz.results40, go_sem]) rfl ⟨_, rfl, hempty _, hb1⟩
    have h0' : ¬ (l.length : Int) = 0 := by omega
    have H0 := Lib.hid h0
    have hb0 : ((l.length : Int) == 0) = false := beq_eq_false_iff_ne.2 h0'
    have hd : decide ((l.length : Int) = 0) = false := decide_eq_false h0'
    by_cases h1 : parts < 0
    · have hP : assignP parts l = [] := by
        have : ¬ 0 ≤ parts := by omega
        simp [assignP, assignOk, this]
      have hd1 : decide (parts < 0) = true := decide_eq_true h1
      rw [hP]
      clear hg hP
      go_enter Tryz.func40, Tryz.ntmps40
      go_wp2_with (first | (go_at_call 53; refine HGd.out.mono ?_; rintro _ w1 ⟨rfl, hb1⟩))
      exact bodyPost_ret (v := .slice none 0 0) (by simp [results, Tryz.results40, go_sem]) rfl ⟨_, rfl, hempty _, hb1⟩
    have hd1 : decide (parts < 0) = false := decide_eq_false h1
    by_cases h2 : 4 < parts
    · have hP : assignP parts l = [] := by
        have : ¬ parts ≤ 4 := by omega
        simp [assignP, assignOk, this]
      have hd2 : decide (4 < parts) = true := decide_eq_true h2
      rw [hP]
      clear hg hP
      go_enter Tryz.func40, Tryz.ntmps40
      go_wp2_with (first | (go_at_call 53; refine HGd.out.mono ?_; rintro _ w1 ⟨rfl, hb1⟩))
      exact bodyPost_ret (v := .slice none 0 0) (by simp [results, Tryz.results40, go_sem]) rfl ⟨_, rfl, hempty _, hb1⟩
    have hd2 : decide (4 < parts) = false := decide_eq_false h2
    have hP : assignP parts l = ownersTo (parts - 1) l.length l l.length := by
      have : 0 ≤ parts := by omega
      have : parts ≤ 4 := by omega
      simp [assignP, assignOk, *]
    have hl4 : l.length ≤ 4 := by
      simp only [goodB, Bool.and_eq_true, decide_eq_true_eq] at hg
      exact hg.2.2
    rw [hP]
    obtain ⟨n, hn⟩ : ∃ n, parts - 1 = n := ⟨_, rfl⟩
    have hn1 : -1 ≤ n := by omega
    have hn3 : n ≤ 3 := by omega
    have hw : IntKind.i64.wrap (parts - 1) = n := by rw [hn]; exact IntWalk.i64_in _ (by omega)
    rw [hn]
    obtain ⟨mm, hmm⟩ : ∃ mm : Int, (l.length : Int) = mm := ⟨_, rfl⟩
    have hq : -1 ≤ n.tdiv l.length ∧ n.tdiv l.length ≤ 3 := by
      have : l.length = 1 ∨ l.length = 2 ∨ l.length = 3 ∨ l.length = 4 := by omega
      have : n = -1 ∨ n = 0 ∨ n = 1 ∨ n = 2 ∨ n = 3 := by omega
      rcases ‹l.length = 1 ∨ _› with e | e | e | e <;> rw [e] <;> rcases this with rfl | rfl | rfl | rfl | rfl <;> decide
    have hsh : ∀ i, shareN n l.length i ≤ 4 := by
      intro i
      unfold shareN
      split <;> omega
    have hlen := fun k (hk : k ≤ l.length) => ownersTo_len_le n l.length l hn3 k (fun i _ => hsh i)
    clear hg hP hmm
    obtain ⟨i1, ki, kz0, kz1, kz2⟩ := info_parts info_Owner
    go_enter Tryz.func40, Tryz.ntmps40
    go_wp2_with (first | (go_at_call 53; refine HGd.out.mono ?_; rintro _ w1 ⟨rfl, hb1⟩))
    go_loopg [5, 8, 9, 10, 33] l.length (fun gk out _ _ _ i wr => ∃ (k : Nat) (oa : Option Addr) (oc : Nat), k ≤ l.length ∧ gk = l.length - k ∧ i = .int .i64 k ∧ out = .slice oa (ownersTo n l.length l k).length oc ∧
      wr.ownsRow w.heap.size 83 2 (.slice oa (ownersTo n l.length l k).length oc) (ownersTo n l.length l k).length (owCells (ownersTo n l.length l k)) ∧ Below w.heap.size w wr)
    case atStart => exact ⟨0, none, 0, Nat.zero_le _, rfl, rfl, rfl, World.ownsRow_nil _ _ _ _, hb1⟩
    case round =>
      obtain ⟨k, oa, oc, hk, rfl, rfl, rfl, hown, hbel⟩ := hrel
      have HX := Lib.hid (And.intro hown hbel)
      have hsz := hbel.size
      by_cases hlt : k < l.length
      · obtain ⟨b, off, rfl, hb, c0⟩ := HC.out k hlt
        have c0 := below_some hbel c0 hb
        have i1' : (k : Int) < (l.length : Int) := by omega
        have i2 : (0 : Int) ≤ (k : Int) := by omega
        have hS1 : (k : Int) < n.tmod l.length → shareN n l.length k = (n.tdiv l.length + 1).toNat := fun h => by simp [shareN, h]
        have hS0 : ¬ (k : Int) < n.tmod l.length → shareN n l.length k = (n.tdiv l.length).toNat := fun h => by simp [shareN, h]
        have hgk : l.getD k [] = l[k] := by simp [hlt]
        have hnext : ownersTo n l.length l (k + 1) = ownersTo n l.length l k ++ (List.range (shareN n l.length k)).map (fun j => ((((ownersTo n l.length l k).length + j + 1 : Nat) : Int), l[k])) := by rw [ownersTo, hgk]
        have hLl := hlen k hk
        have HN := Lib.hid hnext
        clear hown hbel hnext hgk
        obtain ⟨x, hx⟩ : ∃ x, l[k] = x := ⟨_, rfl⟩
        rw [hx] at c0 HN
        generalize ownersTo n l.length l k = Lk at *
        generalize shareN n l.length k = S at *
        have HSH := Lib.hid hsh
        have HLN := Lib.hid hlen
        clear hsh hlen hx
        by_cases hr : (k : Int) < n.tmod l.length
        all_goals
          first
            | (have hS := hS1 hr)
            | (have hS := hS0 hr)
          clear hS1 hS0
          go_wp2
          go_loopg [5, 49] S (fun gk out i wx => ∃ (j : Nat) (oa : Option Addr) (oc : Nat), j ≤ S ∧ gk = S - j ∧ i = .int .i64 j ∧ out = .slice oa (Lk.length + j) oc ∧
            wx.ownsRow w.heap.size 83 2 (.slice oa (Lk.length + j) oc) (Lk.length + j) (owCells (Lk ++ (List.range j).map (fun j => (((Lk.length + j + 1 : Nat) : Int), x)))) ∧ Below w.heap.size w wx)
          case atStart => exact ⟨0, oa, oc, Nat.zero_le _, rfl, rfl, rfl, by simpa using HX.out.1, HX.out.2⟩
          case round =>
            obtain ⟨j, oa2, oc2, hj, rfl, rfl, rfl, hown2, hbel2⟩ := hrel
            have HZ := Lib.hid (And.intro hown2 hbel2)
            have hsz2 := hbel2.size
            clear hown2 hbel2
            by_cases hjl : j < S
            · have hj2 : (j : Int) < n.tdiv l.length + 1 := by omega
              try have hj1 : (j : Int) < n.tdiv l.length := by omega
              go_wp2_with (first | (at_builtin; refine wpList_append_lies _ rfl _ _ 80 rfl w.heap.size 83 i1 _ 2 24 und_Owners ki kz0 kz1 kz2 rfl (by decide) (.slice oa2 (Lk.length + j) oc2) (Lk.length + j) (owCells (Lk ++ (List.range j).map (fun j => (((Lk.length + j + 1 : Nat) : Int), x)))) rfl (HZ.out.1.alloc _) ⟨wr.heap.size, 0, none⟩ 1 1 _ rfl rfl (World.news_of_block (t := 83) (fr := (0, 0)) (heap_alloc_new wr _)) (by simp [Value.oneCell']) (by decide) ?_ ?_ ?_ _ rfl ?_; (unfold maxLen; omega); (omega); (simp only [World.size_alloc]; omega); intro g7 cap7 w8 hown8 hgrow8 hat8 hlt8; have H8 := Lib.hid (And.intro hown8 hgrow8); clear hown8 hgrow8 hat8 hlt8))
              go_roundg (S - (j + 1))
              case measure => omega
              case rel =>
                refine ⟨j + 1, some ⟨g7, 0, none⟩, cap7, by omega, rfl, by go_num, rfl, ?_, ?_⟩
                · have e : owCells (Lk ++ (List.range (j + 1)).map (fun j => (((Lk.length + j + 1 : Nat) : Int), x))) = owCells (Lk ++ (List.range j).map (fun j => (((Lk.length + j + 1 : Nat) : Int), x))) ++ [.int .i64 ((Lk.length : Int) + (j : Int) + 1), .string (bs x)] := by
                    rw [List.range_succ, List.map_append, ← List.append_assoc]
                    unfold owCells
                    rw [List.flatMap_append]
                    rfl
                  rw [e]
                  exact H8.out.1
                · exact HZ.out.2.trans (((upd_alloc (fun k => some k = (Value.slice oa2 (Lk.length + j) oc2).ownBlock) wr _).trans (upd_grown H8.out.2)).toBelow hsz2 (fun k e => (owns_lt HZ.out.1 k e.symm).1))
            · have hje : j = S := by omega
              have hj3 : ¬ (j : Int) < n.tdiv l.length := by omega
              try have hj4 : ¬ (j : Int) < n.tdiv l.length + 1 := by omega
              have HJE := Lib.hid hje
              clear hje
              go_wp2
              go_roundg (l.length - (k + 1))
              case measure => omega
              case rel =>
                have e1 := HN.out
                have hje := HJE.out
                have e2 : (ownersTo n l.length l (k + 1)).length = Lk.length + j := by rw [e1, ← hje]; simp
                refine ⟨k + 1, oa2, oc2, by omega, rfl, by go_num, by rw [e2], ?_, HZ.out.2⟩
                rw [e2, e1, ← hje]
                exact HZ.out.1
      · have hkl : k = l.length := by omega
        subst hkl
        have i1' : ¬ (l.length : Int) < (l.length : Int) := by omega
        clear hown hbel
        go_wp2
        exact bodyPost_ret (v := .slice oa (ownersTo n l.length l l.length).length oc) (by simp [results, Tryz.results40, go_sem]) rfl ⟨_, rfl, (Sl.of_owns HX.out.1).rd, HX.out.2⟩
end Go.Proofs.YtdchjepahgecgaaGreatDoor
