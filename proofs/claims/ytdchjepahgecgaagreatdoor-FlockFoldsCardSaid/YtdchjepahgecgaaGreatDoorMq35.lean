/- The walk of flock.Fold. -/
/- The walks of layer 11's own group, member, off. -/
import Derived.Test.YtdchjepahgecgaaGreatDoorMq34
import Derived.Test.YtdchjepahgecgaaGreatDoorMq29
namespace Go.Proofs.YtdchjepahgecgaaGreatDoor
open Go.RowKit

/-- A record. -/
structure Rc where
  off : Int
  key : List UInt8
  val : List UInt8
  gone : Bool
def rcEl (x : Rc) : List Value := [.int .i64 x.off, .string (bs x.key), .string (bs x.val), .bool x.gone]
theorem rcEl_len (x : Rc) : (rcEl x).length = 4 := rfl
def RcsRd (w : World) (v : Value) (l : List Rc) : Prop := Rd w 4 v l.length (l.flatMap rcEl)
theorem RcsRd.below {w w' : World} {v : Value} {l : List Rc} (h : RcsRd w v l) (hb : Below w.heap.size w w') : RcsRd w' v l := Rd.below h hb
theorem RcsRd.cells {w : World} {v : Value} {l : List Rc} (h : RcsRd w v l) : ∃ a cap, v = .slice a l.length cap ∧ l.length ≤ cap ∧ l.length ≤ maxLen ∧
    ∀ k (_ : k < l.length), ∃ b off, a = some ⟨b, off, none⟩ ∧ b < w.heap.size ∧ w.cell? ⟨b, off + k * 4, none⟩ = some (.int .i64 l[k].off) ∧ w.cell? ⟨b, off + k * 4 + 1, none⟩ = some (.string (bs l[k].key)) ∧
      w.cell? ⟨b, off + k * 4 + 2, none⟩ = some (.string (bs l[k].val)) ∧ w.cell? ⟨b, off + k * 4 + 3, none⟩ = some (.bool l[k].gone) := by
  obtain ⟨a, cap, rfl, hc⟩ := Rd.shape h
  refine ⟨a, cap, rfl, hc, Rd.maxlen h, ?_⟩
  intro k hk
  obtain ⟨b, off, cap, e, _, _, hb, hc⟩ := Rd.at h (by omega)
  simp only [Value.slice.injEq, true_and] at e
  exact ⟨b, off, e.1, hb, hc _ _ (fl_at rcEl_len l k hk 0 _ rfl), hc _ _ (fl_at rcEl_len l k hk 1 _ rfl), hc _ _ (fl_at rcEl_len l k hk 2 _ rfl), hc _ _ (fl_at rcEl_len l k hk 3 _ rfl)⟩

def applyR (L : List Fk) (x : Rc) : List Fk := applyW L (readP x.key x.val x.gone).1
def foldR (l : List Rc) : List Fk := l.foldl applyR []
theorem applyR_ok {L : List Fk} (h : FksOk L) (x : Rc) : FksOk (applyR L x) := applyW_ok h (readP_ok _ _ _)
theorem foldR_ok (l : List Rc) : FksOk (foldR l) := by
  have : ∀ (l : List Rc) (L : List Fk), FksOk L → FksOk (l.foldl applyR L) := by
    intro l
    induction l with
    | nil => exact fun L h => h
    | cons x l ih => exact fun L h => ih _ (applyR_ok h x)
  exact this l [] .nil

/-- flock.Apply at groups in order. -/
theorem FApply_ok {w : World} {v : Value} {L : List Fk} (h : FksRd w v L) (ho : FksOk L) (x : Rc) (hk : x.key.length ≤ 100000) (hv : x.val.length ≤ 100000) (hE : Env w) :
    Calls Tryz.prog 10 #[v, .agg #[.int .i64 x.off, .string (bs x.key), .string (bs x.val), .bool x.gone]] w (ApplyTo w (applyR L x)) :=
  apply_any h ho.small ho.up (fun y hy => (ho.each y hy).pts) (fun y hy => by have := (ho.each y hy).few; omega) x.key x.val x.gone x.off hk hv hE

set_option maxRecDepth 100000 in
set_option maxHeartbeats 1000000 in
theorem FFold_any {w : World} {v : Value} {l : List Rc} (h : RcsRd w v l) (hs : ∀ x ∈ l, x.key.length ≤ 100000 ∧ x.val.length ≤ 100000) (hE : Env w) : Calls Tryz.prog 13 #[v] w (ApplyTo w (foldR l)) := by
  obtain ⟨a, cap, rfl, -, hml, hC⟩ := h.cells
  have hml' : (l.length : Int) ≤ 9223372036854775807 := by have : maxLen = 9223372036854775807 := rfl; omega
  have HC := Lib.hid hC
  have HS := Lib.hid hs
  have HE := Lib.hid hE
  clear h hC hs hE hml
  go_enter Tryz.func13, Tryz.ntmps13
  go_wp2
  go_loopg [3, 8] l.length (fun gk out i wr => ∃ (k : Nat), k ≤ l.length ∧ gk = l.length - k ∧ i = .int .i64 k ∧ OwnFk wr w.heap.size out (foldR (l.take k)) ∧ Below w.heap.size w wr)
  case atStart => exact ⟨0, Nat.zero_le _, rfl, rfl, OwnFk.nil _ _, Below.refl _ _⟩
  case round =>
    obtain ⟨k, hk, rfl, rfl, hrd, hbel⟩ := hrel
    have hsz := hbel.size
    by_cases hlt : k < l.length
    · obtain ⟨b, off, rfl, hb, c0, c1, c2, c3⟩ := HC.out k hlt
      have c0 := below_some hbel c0 hb
      have c1 := below_some hbel c1 hb
      have c2 := below_some hbel c2 hb
      have c3 := below_some hbel c3 hb
      have i1 : (k : Int) < (l.length : Int) := by omega
      have i2 : (0 : Int) ≤ (k : Int) := by omega
      have htk : foldR (l.take (k + 1)) = applyR (foldR (l.take k)) l[k] := by
        unfold foldR
        rw [List.take_succ_eq_append_getElem hlt, List.foldl_append]; rfl
      obtain ⟨hk1, hv1⟩ := HS.out _ (List.getElem_mem hlt)
      have hap : ∀ o, Calls Tryz.prog 10 #[u3, .agg #[.int .i64 l[k].off, .string (bs l[k].key), .string (bs l[k].val), .bool l[k].gone]] (wr.alloc o) (ApplyTo (wr.alloc o) (applyR (foldR (l.take k)) l[k])) := fun o =>
        FApply_ok (hrd.rd.below (below_alloc wr o)) (foldR_ok _) l[k] hk1 hv1 (HE.out.below (hbel.trans ((below_alloc wr o).mono hsz)))
      have HAP := Lib.hid hap
      have HTK := Lib.hid htk
      have HB := Lib.hid hbel
      clear hap htk hrd hbel
      go_wp2_with (first | (go_at_call 10; refine (HAP.out _).mono ?_; rintro _ w2 ⟨v2, rfl, hr2, hb2⟩))
      go_roundg (l.length - (k + 1))
      case measure => omega
      case rel => exact ⟨k + 1, by omega, rfl, by go_num, by rw [HTK.out]; exact hr2.mono (by simp only [World.size_alloc]; omega), HB.out.trans ((below_trans (below_alloc wr _) hb2).mono hsz)⟩
    · have hkl : k = l.length := by omega
      subst hkl
      have i1 : ¬ (l.length : Int) < (l.length : Int) := by omega
      rw [List.take_length] at hrd
      have HZ := Lib.hid (And.intro hrd hbel)
      clear hrd hbel
      go_wp2
      go_ret
      exact ⟨_, rfl, HZ.out.1, HZ.out.2⟩
end Go.Proofs.YtdchjepahgecgaaGreatDoor
namespace Go.Proofs.YtdchjepahgecgaaGreatDoor
open Go.RowKit

theorem any_yes {α : Type} {p : α → Bool} {l : List α} {k : Nat} (hk : k < l.length) (h : p l[k] = true) : l.any p = true := List.any_eq_true.2 ⟨_, List.getElem_mem hk, h⟩
theorem any_no {α : Type} {p : α → Bool} {l : List α} (h : ∀ j (hj : j < l.length), p l[j] = false) : l.any p = false := by
  rw [List.any_eq_false]
  intro x hx
  obtain ⟨j, hj, rfl⟩ := List.mem_iff_getElem.1 hx
  simp [h j hj]

set_option maxRecDepth 100000 in
theorem member_any {w : World} {v : Value} {l : List (List UInt8)} (h : Strs w v l) (x : List UInt8) : Calls Tryz.prog 17 #[v, .string (bs x)] w fun e w' => e = .returned (.bool (l.any (fun y => decide (y = x)))) ∧ w' = w := by
  obtain ⟨a, cap, rfl, -, hml, hC⟩ := h.cells
  have hml' : (l.length : Int) ≤ 9223372036854775807 := by have : maxLen = 9223372036854775807 := rfl; omega
  have HC := Lib.hid hC
  clear h hC hml
  go_enter Tryz.func17, Tryz.ntmps17
  go_wp2
  go_loopg [5] l.length (fun gk i wr => ∃ k : Nat, k ≤ l.length ∧ gk = l.length - k ∧ i = .int .i64 k ∧ wr = w ∧ ∀ j (hl : j < l.length), j < k → decide (l[j] = x) = false)
  case atStart => exact ⟨0, Nat.zero_le _, rfl, rfl, rfl, fun j _ hj => absurd hj (Nat.not_lt_zero j)⟩
  case round =>
    obtain ⟨k, hk, rfl, rfl, rfl, hno⟩ := hrel
    have HN := Lib.hid hno
    clear hno
    by_cases hlt : k < l.length
    · obtain ⟨b, off, rfl, hb, c0⟩ := HC.out k hlt
      have i1 : (k : Int) < (l.length : Int) := by omega
      have i2 : (0 : Int) ≤ (k : Int) := by omega
      have hn1 : decide (l[k] = x) = true → l.any (fun y => decide (y = x)) = true := fun e => any_yes (p := fun y => decide (y = x)) hlt e
      have hn2 : decide (l[k] = x) = false → ∀ j (hl : j < l.length), j < k + 1 → decide (l[j] = x) = false := by
        intro hne j hl hj
        by_cases e : j = k
        · subst e; exact hne
        · exact HN.out j hl (by omega)
      generalize l[k] = y at *
      have hbq := beq_dec y x
      cases e : decide (y = x) with
      | true =>
        rw [e] at hbq
        have HI := Lib.hid (hn1 e)
        clear hn1 hn2 e
        go_wp2
        go_ret
        exact ⟨by rw [HI.out]; rfl, rfl⟩
      | false =>
        rw [e] at hbq
        have HN2 := Lib.hid (hn2 e)
        clear hn1 hn2 e
        go_wp2
        go_roundg (l.length - (k + 1))
        case measure => omega
        case rel => exact ⟨k + 1, by omega, rfl, by go_num, rfl, HN2.out⟩
    · have i1 : ¬ (k : Int) < (l.length : Int) := by omega
      have HI := Lib.hid (any_no (p := fun y => decide (y = x)) (l := l) (fun j hj => HN.out j hj (by omega)))
      go_wp2
      go_ret
      exact ⟨by rw [HI.out]; rfl, rfl⟩

/-- A group's committed offset of a partition. -/
def offP (l : List (Int × Int)) (x : Int) : Int := match l.find? (fun y => decide (y.1 = x)) with | some y => y.2 | none => -1
theorem offP_at {l : List (Int × Int)} {x : Int} {k : Nat} (hk : k < l.length) (h : ∀ j (hj : j < l.length), j < k → decide (l[j].1 = x) = false) (e : decide (l[k].1 = x) = true) : offP l x = l[k].2 := by
  rw [offP, find_some (q := fun y : Int × Int => decide (y.1 = x)) hk e h]
theorem offP_no {l : List (Int × Int)} {x : Int} (h : ∀ j (hj : j < l.length), decide (l[j].1 = x) = false) : offP l x = -1 := by
  rw [offP, find_none (q := fun y : Int × Int => decide (y.1 = x)) h]

set_option maxRecDepth 100000 in
theorem off_any {w : World} {nm : ByteArray} {g p : Int} {mv : Value} {pa : Option Addr} {pc : Nat} {l : List (Int × Int)} (_hm : mv.oneCell' = true) (h : PtsRd w (.slice pa l.length pc) l) (x : Int) :
    Calls Tryz.prog 19 #[.agg #[.string nm, .int .i64 g, .int .i64 p, mv, .slice pa l.length pc], .int .i64 x] w fun e w' => e = .returned (.int .i64 (offP l x)) ∧ Below w.heap.size w w' := by
  obtain ⟨a, cap, he, -, hml, hC⟩ := (h.below (below_alloc w (.cells #[.string nm, .int .i64 g, .int .i64 p, mv, .slice pa l.length pc] 44))).cells
  simp only [Value.slice.injEq, true_and] at he
  obtain ⟨rfl, rfl⟩ := he
  have hml' : (l.length : Int) ≤ 9223372036854775807 := by have : maxLen = 9223372036854775807 := rfl; omega
  obtain ⟨wa, hwa⟩ : ∃ wa, wa = w.alloc (.cells #[.string nm, .int .i64 g, .int .i64 p, mv, .slice pa l.length pc] 44) := ⟨_, rfl⟩
  have hN : wa.heap[w.heap.size]? = some (.cells #[.string nm, .int .i64 g, .int .i64 p, mv, .slice pa l.length pc] 44 (0, 0)) := by rw [hwa]; exact heap_alloc_new w _
  have hb : Below w.heap.size w wa := by rw [hwa]; exact below_alloc _ _
  rw [← hwa] at hC
  have z4 := cells_of hN 4 _ rfl
  have HC := Lib.hid hC
  have HB := Lib.hid hb
  clear h hC hml hb hN
  go_enter Tryz.func19, Tryz.ntmps19
  go_upto_region 1 with fail
  rw [← hwa]
  clear hwa
  go_wp2
  go_loopg [5] l.length (fun gk i wr => ∃ k : Nat, k ≤ l.length ∧ gk = l.length - k ∧ i = .int .i64 k ∧ wr = wa ∧ ∀ j (hl : j < l.length), j < k → decide (l[j].1 = x) = false)
  case atStart => exact ⟨0, Nat.zero_le _, rfl, rfl, rfl, fun j _ hj => absurd hj (Nat.not_lt_zero j)⟩
  case round =>
    obtain ⟨k, hk, rfl, rfl, rfl, hno⟩ := hrel
    have HN := Lib.hid hno
    clear hno
    by_cases hlt : k < l.length
    · obtain ⟨b, off, rfl, hb, c0, c1⟩ := HC.out k hlt
      have i1 : (k : Int) < (l.length : Int) := by omega
      have i2 : (0 : Int) ≤ (k : Int) := by omega
      have hn1 : decide (l[k].1 = x) = true → offP l x = l[k].2 := fun e => offP_at hlt HN.out e
      have hn2 : decide (l[k].1 = x) = false → ∀ j (hl : j < l.length), j < k + 1 → decide (l[j].1 = x) = false := by
        intro hne j hl hj
        by_cases e : j = k
        · subst e; exact hne
        · exact HN.out j hl (by omega)
      generalize l[k].1 = y1 at *
      generalize l[k].2 = y2 at *
      by_cases e : y1 = x
      · have HI := Lib.hid (hn1 (decide_eq_true e))
        have hbq : (y1 == x) = true := by simp [e]
        clear hn1 hn2 e
        go_wp2
        go_ret
        exact ⟨by rw [HI.out]; rfl, HB.out⟩
      · have hbq : (y1 == x) = false := by simp [e]
        have HN2 := Lib.hid (hn2 (decide_eq_false e))
        clear hn1 hn2 e
        go_wp2
        go_roundg (l.length - (k + 1))
        case measure => omega
        case rel => exact ⟨k + 1, by omega, rfl, by go_num, rfl, HN2.out⟩
    · have i1 : ¬ (k : Int) < (l.length : Int) := by omega
      have HI := Lib.hid (offP_no (l := l) (x := x) (fun j hj => HN.out j hj (by omega)))
      go_wp2
      go_ret
      exact ⟨by rw [HI.out]; rfl, HB.out⟩
end Go.Proofs.YtdchjepahgecgaaGreatDoor
