/- The walks of layer 11's own group and of great. -/
import Derived.Test.YtdchjepahgecgaaGreatDoorMq35
namespace Go.Proofs.YtdchjepahgecgaaGreatDoor
open Go.RowKit

def grp (L : List Fk) (s : List UInt8) : Fk := (L.find? fun y => decide (y.name = s)).getD ⟨[], 0, 0, [], []⟩
def GroupTo (w : World) (f : Fk) (is : Bool) (e : Ending) (w' : World) : Prop := ∃ (ma : Option Addr) (mc : Nat) (pa : Option Addr) (pc : Nat),
  e = .returned (.tuple #[.agg #[.string (bs f.name), .int .i64 f.gen, .int .i64 f.parts, .slice ma f.members.length mc, .slice pa f.points.length pc], .bool is]) ∧
  Strs w' (.slice ma f.members.length mc) f.members ∧ PtsRd w' (.slice pa f.points.length pc) f.points ∧ Below w.heap.size w w'

set_option maxRecDepth 100000 in
set_option maxHeartbeats 1000000 in
theorem group_any {w : World} {v : Value} {L : List Fk} (h : FksRd w v L) (s : List UInt8) : Calls Tryz.prog 16 #[v, .string (bs s)] w (GroupTo w (grp L s) (hasFk L s)) := by
  obtain ⟨a, cap, rfl, -, hml, hC⟩ := h.cells
  have hml' : (L.length : Int) ≤ 9223372036854775807 := by have : maxLen = 9223372036854775807 := rfl; omega
  obtain ⟨R, hR⟩ : ∃ R, grp L s = R := ⟨_, rfl⟩
  obtain ⟨is, his⟩ : ∃ is, hasFk L s = is := ⟨_, rfl⟩
  rw [hR, his]
  obtain ⟨wa, hwa⟩ : ∃ wa, wa = w.alloc (.cells #[.string ⟨#[]⟩, .int .i64 0, .int .i64 0, .slice none 0 0, .slice none 0 0] 44) := ⟨_, rfl⟩
  have hN : wa.heap[w.heap.size]? = some (.cells #[.string ⟨#[]⟩, .int .i64 0, .int .i64 0, .slice none 0 0, .slice none 0 0] 44 (0, 0)) := by rw [hwa]; exact heap_alloc_new w _
  have hb : Below w.heap.size w wa := by rw [hwa]; exact below_alloc _ _
  have r0 := cells_of hN 0 _ rfl
  have r1 := cells_of hN 1 _ rfl
  have r2 := cells_of hN 2 _ rfl
  have r3 := cells_of hN 3 _ rfl
  have r4 := cells_of hN 4 _ rfl
  have f0 := frozen_of (j := 0) hN
  have f1 := frozen_of (j := 1) hN
  have f2 := frozen_of (j := 2) hN
  have f3 := frozen_of (j := 3) hN
  have f4 := frozen_of (j := 4) hN
  have HC := Lib.hid hC
  have HB := Lib.hid (And.intro hb hN)
  have HR := Lib.hid (And.intro hR his)
  clear h hC hml hb hN hR his
  go_enter Tryz.func16, Tryz.ntmps16
  go_upto_region 1 with fail
  rw [← hwa]
  clear hwa
  go_wp2
  go_loopg [6] L.length (fun gk i wr => ∃ k : Nat, k ≤ L.length ∧ gk = L.length - k ∧ i = .int .i64 k ∧ wr = wa ∧ ∀ j (hl : j < L.length), j < k → decide (L[j].name = s) = false)
  case atStart => exact ⟨0, Nat.zero_le _, rfl, rfl, rfl, fun j _ hj => absurd hj (Nat.not_lt_zero j)⟩
  case round =>
    obtain ⟨k, hk, rfl, rfl, rfl, hno⟩ := hrel
    have HN := Lib.hid hno
    clear hno
    by_cases hlt : k < L.length
    · obtain ⟨b, off, ma, mc, pa, pc, rfl, hb0, c0, c1, c2, c3, c4, hst, hpt⟩ := HC.out k hlt
      have c0 := below_some HB.out.1 c0 hb0
      have c1 := below_some HB.out.1 c1 hb0
      have c2 := below_some HB.out.1 c2 hb0
      have c3 := below_some HB.out.1 c3 hb0
      have c4 := below_some HB.out.1 c4 hb0
      have hne : ¬ b = w.heap.size := by omega
      have i1 : (k : Int) < (L.length : Int) := by omega
      have i2 : (0 : Int) ≤ (k : Int) := by omega
      have hn1 : decide (L[k].name = s) = true → R = L[k] ∧ is = true := fun e => ⟨by rw [← HR.out.1, grp, find_some (q := fun y : Fk => decide (y.name = s)) hlt e HN.out]; rfl, by rw [← HR.out.2]; exact any_yes (p := fun y : Fk => decide (y.name = s)) hlt e⟩
      have hn2 : decide (L[k].name = s) = false → ∀ j (hl : j < L.length), j < k + 1 → decide (L[j].name = s) = false := by
        intro hne j hl hj
        by_cases e : j = k
        · subst e; exact hne
        · exact HN.out j hl (by omega)
      generalize L[k] = y at *
      have HS := Lib.hid (And.intro hst hpt)
      have hbq := beq_dec y.name s
      cases e : decide (y.name = s) with
      | true =>
        rw [e] at hbq
        have HI := Lib.hid (hn1 e)
        clear hn1 hn2 e hst hpt hb0
        go_wp2
        try simp only [Exit.inBlock, Exit.then, jump_ret]
        obtain ⟨hz, hu⟩ := set5 HB.out.2 (.string (bs y.name)) (.int .i64 y.gen) (.int .i64 y.parts) (.slice ma y.members.length mc) (.slice pa y.points.length pc)
        have z0 := cells_of hz 0 _ rfl
        have z1 := cells_of hz 1 _ rfl
        have z2 := cells_of hz 2 _ rfl
        have z3 := cells_of hz 3 _ rfl
        have z4 := cells_of hz 4 _ rfl
        have hbz := HB.out.1.trans (hu.toBelow HB.out.1.size (fun k e => by omega))
        exact bodyPost_ret (v := .tuple #[.agg #[.string (bs y.name), .int .i64 y.gen, .int .i64 y.parts, .slice ma y.members.length mc, .slice pa y.points.length pc], .bool true]) (by simp [results, Tryz.results16, go_sem, z0, z1, z2, z3, z4]) rfl
          ⟨ma, mc, pa, pc, by rw [HI.out.1, HI.out.2], by rw [HI.out.1]; exact HS.out.1.below hbz, by rw [HI.out.1]; exact HS.out.2.below hbz, hbz⟩
      | false =>
        rw [e] at hbq
        have HN2 := Lib.hid (hn2 e)
        clear hn1 hn2 e hst hpt
        go_wp2
        go_roundg (L.length - (k + 1))
        case measure => omega
        case rel => exact ⟨k + 1, by omega, rfl, by go_num, rfl, HN2.out⟩
    · have i1 : ¬ (k : Int) < (L.length : Int) := by omega
      have HI : Hid (R = ⟨[], 0, 0, [], []⟩ ∧ is = false) := Lib.hid ⟨by rw [← HR.out.1, grp, find_none (q := fun y : Fk => decide (y.name = s)) (fun j hj => HN.out j hj (by omega))]; rfl, by rw [← HR.out.2]; exact any_no (p := fun y : Fk => decide (y.name = s)) (fun j hj => HN.out j hj (by omega))⟩
      go_wp2
      try simp only [Exit.inBlock, Exit.then, jump_ret]
      obtain ⟨hz, hu⟩ := set5 HB.out.2 (.string ⟨#[]⟩) (.int .i64 0) (.int .i64 0) (.slice none 0 0) (.slice none 0 0)
      have z0 := cells_of hz 0 _ rfl
      have z1 := cells_of hz 1 _ rfl
      have z2 := cells_of hz 2 _ rfl
      have z3 := cells_of hz 3 _ rfl
      have z4 := cells_of hz 4 _ rfl
      have hbz := HB.out.1.trans (hu.toBelow HB.out.1.size (fun k e => by omega))
      exact bodyPost_ret (v := .tuple #[.agg #[.string ⟨#[]⟩, .int .i64 0, .int .i64 0, .slice none 0 0, .slice none 0 0], .bool false]) (by simp [results, Tryz.results16, go_sem, z0, z1, z2, z3, z4]) rfl
        ⟨none, 0, none, 0, by rw [HI.out.1, HI.out.2]; rfl, by rw [HI.out.1]; exact Strs.nil _, by rw [HI.out.1]; exact PtsRd.nil _, hbz⟩

/-- Records that are more than is asked. -/
def greatB (l : List Rc) : Bool := decide (60 < l.length) || l.any (fun x => decide (200 < x.key.length) || decide (500 < x.val.length))

set_option maxRecDepth 100000 in
set_option maxHeartbeats 1000000 in
theorem great_any {w : World} {v : Value} {l : List Rc} (h : RcsRd w v l) : Calls Tryz.prog 9 #[v] w fun e w' => e = .returned (.bool (greatB l)) ∧ w' = w := by
  obtain ⟨a, cap, rfl, -, hml, hC⟩ := h.cells
  have hml' : (l.length : Int) ≤ 9223372036854775807 := by have : maxLen = 9223372036854775807 := rfl; omega
  obtain ⟨R, hR⟩ : ∃ R, greatB l = R := ⟨_, rfl⟩
  rw [hR]
  have HR := Lib.hid hR
  have HC := Lib.hid hC
  clear h hC hml hR
  by_cases h60 : 60 < l.length
  · have h60' : (60 : Int) < (l.length : Int) := by omega
    have HI : Hid (R = true) := Lib.hid (by rw [← HR.out]; simp [greatB, h60])
    go_enter Tryz.func9, Tryz.ntmps9
    go_wp2
    go_ret
    exact ⟨by rw [HI.out]; rfl, rfl⟩
  · have h60' : ¬ (60 : Int) < (l.length : Int) := by omega
    have HI : Hid (R = l.any (fun x => decide (200 < x.key.length) || decide (500 < x.val.length))) := Lib.hid (by rw [← HR.out]; simp [greatB, h60])
    go_enter Tryz.func9, Tryz.ntmps9
    go_wp2
    go_loopg [3] l.length (fun gk i wr => ∃ k : Nat, k ≤ l.length ∧ gk = l.length - k ∧ i = .int .i64 k ∧ wr = w ∧ ∀ j (hl : j < l.length), j < k → (decide (200 < l[j].key.length) || decide (500 < l[j].val.length)) = false)
    case atStart => exact ⟨0, Nat.zero_le _, rfl, rfl, rfl, fun j _ hj => absurd hj (Nat.not_lt_zero j)⟩
    case round =>
      obtain ⟨k, hk, rfl, rfl, rfl, hno⟩ := hrel
      have HN := Lib.hid hno
      clear hno
      by_cases hlt : k < l.length
      · obtain ⟨b, off, rfl, hb, -, c1, c2, -⟩ := HC.out k hlt
        have i1 : (k : Int) < (l.length : Int) := by omega
        have i2 : (0 : Int) ≤ (k : Int) := by omega
        have hn1 : (decide (200 < l[k].key.length) || decide (500 < l[k].val.length)) = true → R = true := fun e => by rw [HI.out]; exact any_yes (p := fun x : Rc => decide (200 < x.key.length) || decide (500 < x.val.length)) hlt e
        have hn2 : (decide (200 < l[k].key.length) || decide (500 < l[k].val.length)) = false → ∀ j (hl : j < l.length), j < k + 1 → (decide (200 < l[j].key.length) || decide (500 < l[j].val.length)) = false := by
          intro hne j hl hj
          by_cases e : j = k
          · subst e; exact hne
          · exact HN.out j hl (by omega)
        have s1 : (bs l[k].key).size = l[k].key.length := bs_size _
        have s2 : (bs l[k].val).size = l[k].val.length := bs_size _
        generalize l[k].key = y1 at *
        generalize l[k].val = y2 at *
        by_cases g1 : 200 < y1.length
        · have HT := Lib.hid (hn1 (by simp [g1]))
          have g1' : (200 : Int) < (y1.length : Int) := by omega
          clear hn1 hn2
          go_wp2
          go_ret
          exact ⟨by rw [HT.out]; rfl, rfl⟩
        · have g1' : ¬ (200 : Int) < (y1.length : Int) := by omega
          by_cases g2 : 500 < y2.length
          · have HT := Lib.hid (hn1 (by simp [g2]))
            have g2' : (500 : Int) < (y2.length : Int) := by omega
            clear hn1 hn2
            go_wp2
            go_ret
            exact ⟨by rw [HT.out]; rfl, rfl⟩
          · have HN2 := Lib.hid (hn2 (by simp [g1, g2]))
            have g2' : ¬ (500 : Int) < (y2.length : Int) := by omega
            clear hn1 hn2
            go_wp2
            go_roundg (l.length - (k + 1))
            case measure => omega
            case rel => exact ⟨k + 1, by omega, rfl, by go_num, rfl, HN2.out⟩
      · have i1 : ¬ (k : Int) < (l.length : Int) := by omega
        have HT : Hid (R = false) := Lib.hid (by rw [HI.out]; exact any_no (p := fun x : Rc => decide (200 < x.key.length) || decide (500 < x.val.length)) (fun j hj => HN.out j hj (by omega)))
        go_wp2
        go_ret
        exact ⟨by rw [HT.out]; rfl, rfl⟩
end Go.Proofs.YtdchjepahgecgaaGreatDoor
