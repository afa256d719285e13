/- The walk of heliographlaw07.batch. -/
/- The walks of heliographlaw07.opened and of the calls at no strand. -/
/- Plain law: what heliographlaw07.awake comes to. -/
import Derived.Test.YtcpaaleogmiamaaGreatDoorMp32
import Derived.Test.YtcpaaleogmiamaaGreatDoorMp27
namespace Go.Proofs.YtcpaaleogmiamaaGreatDoor
open Go.RowKit

def recK (base : Int) (i : Nat) : Rec := ⟨base + i, ⟨#[107]⟩, ⟨#[118]⟩, false⟩
def recsK (base : Int) (c : Nat) : List Rec := (List.range c).map (recK base)
def batK (base : Int) (c : Nat) : Batch := ⟨base, c, 0, 0, 0, recsK base c⟩
theorem recsK_len (base : Int) (c : Nat) : (recsK base c).length = c := by simp [recsK]
theorem recsK_succ (base : Int) (c : Nat) : recsK base (c + 1) = recsK base c ++ [recK base c] := by simp [recsK, List.range_succ]

/-- What stands in a round of batch. -/
structure BtR (w : World) (n : Nat) (base : Int) (c i : Nat) (rv : Value) (W : World) : Prop where
  res : W.heap[n]? = some (.cells #[.int .i64 0, .int .i64 0, .int .i64 0, .int .i64 0, .int .i64 0, .slice none 0 0] 40 (0, 0))
  bat : W.heap[n + 1]? = some (.cells #[.int .i64 base, .int .i64 (c : Int), .int .i64 0, .int .i64 0, .int .i64 0, rv] 40 (0, 0))
  row : W.ownsRow n 84 4 rv i (recCells (recsK base i))
  bel : Below n w W
theorem BtR.more {w W W5 : World} {n : Nat} {base : Int} {c i : Nat} {rv : Value} (h : BtR w n base c i rv W) (hn : n ≤ w.heap.size) {ob : Obj} {g cap : Nat} (ho : W5.ownsRow n 84 4 (.slice (some ⟨g, 0, none⟩) (i + 1) cap) (i + 1) (recCells (recsK base i) ++ [.int .i64 (base + i), .string ⟨#[107]⟩, .string ⟨#[118]⟩, .bool false]))
    (hg : (W.alloc ob).grownBy W5 rv.ownBlock) : W5.cell? ⟨n + 1, 5, none⟩ = some rv ∧ W5.frozen? ⟨n + 1, 5, none⟩ = false ∧ BtR w n base c (i + 1) (.slice (some ⟨g, 0, none⟩) (i + 1) cap) (W5.setCell ⟨n + 1, 5, none⟩ (.slice (some ⟨g, 0, none⟩) (i + 1) cap)) := by
  have hu : Upd (fun k => some k = rv.ownBlock) W W5 := (upd_alloc _ W ob).trans (upd_grown hg)
  have hnr : ∀ k cs, W.heap[k]? = some (.cells cs 40 (0, 0)) → ¬ some k = rv.ownBlock := fun k cs hk e => by
    obtain ⟨cur, hc⟩ := owns_kind3 h.row k e.symm
    rw [hk] at hc
    simp at hc
  have r5 := (hu.block _ (Array.getElem?_eq_some_iff.1 h.res).1 (hnr _ _ h.res)).trans h.res
  have b5 := (hu.block _ (Array.getElem?_eq_some_iff.1 h.bat).1 (hnr _ _ h.bat)).trans h.bat
  have hset := upd_set1 W5 (n + 1) 5 (.slice (some ⟨g, 0, none⟩) (i + 1) cap)
  refine ⟨cells_of b5 5 _ rfl, frozen_of b5, (hset.block _ (Array.getElem?_eq_some_iff.1 r5).1 (by omega)).trans r5, setCell_same (o := 5) (v := .slice (some ⟨g, 0, none⟩) (i + 1) cap) b5, ?_, ?_⟩
  · have e : recCells (recsK base (i + 1)) = recCells (recsK base i) ++ [.int .i64 (base + i), .string ⟨#[107]⟩, .string ⟨#[118]⟩, .bool false] := by rw [recsK_succ]; simp [recCells, Rec.cells, recK]
    rw [e]
    exact owns_upd ho hset (fun q hq e => by
      obtain ⟨cur, hc⟩ := owns_kind3 ho q hq
      rw [e, b5] at hc
      simp at hc)
  · have hz := h.bel.size
    have h1 := hu.toBelow (N := n) (by omega) (fun k e => (owns_lt h.row k e.symm).1)
    have hz2 := hu.size
    exact (h.bel.trans h1).trans (hset.toBelow (by omega) (fun k e => by omega))

set_option maxRecDepth 100000 in
set_option maxHeartbeats 4000000 in
theorem L7batch_any {base : Int} (c : Nat) (hb : 0 ≤ base ∧ base ≤ 1099511627776) (hc : c ≤ 8) (w : World) :
    Calls Tryz.prog 58 #[.int .i64 base, .int .i64 (c : Int)] w fun en w' => ∃ v : Value, en = .returned ((batK base c).v v) ∧ w'.ownsRow w.heap.size 84 4 v c (recCells (recsK base c)) ∧ Below w.heap.size w w' := by
  obtain ⟨n, hn⟩ : ∃ n, w.heap.size = n := ⟨_, rfl⟩
  have hstart : BtR w n base c 0 (.slice none 0 0) ((w.alloc (.cells #[.int .i64 0, .int .i64 0, .int .i64 0, .int .i64 0, .int .i64 0, .slice none 0 0] 40)).alloc (.cells #[.int .i64 base, .int .i64 (c : Int), .int .i64 0, .int .i64 0, .int .i64 0, .slice none 0 0] 40)) :=
    ⟨al_old _ (al_at _ hn), al_at _ (by simp only [World.size_alloc]; omega), World.ownsRow_nil _ _ _ _, by rw [← hn]; exact ((Below.refl _ w).alloc (Nat.le_refl _) _).alloc (by simp) _⟩
  have HST := Lib.hid hstart
  have hln : n ≤ w.heap.size := Nat.le_of_eq hn.symm
  clear hstart
  go_enter Tryz.func58, Tryz.ntmps58
  go_wp2_with fail
  try simp only [World.size_alloc, hn]
  obtain ⟨i0, hi, hz0, hz1, hz2⟩ := info_parts info_Rec4
  go_loopg [6] c (fun gk v6 wr => ∃ (i : Nat) (rv : Value), i ≤ c ∧ gk = c - i ∧ v6 = .int .i64 i ∧ BtR w n base c i rv wr)
  case atStart => exact ⟨0, _, Nat.zero_le _, rfl, rfl, HST.out⟩
  case round =>
    obtain ⟨i, rv, hi2, rfl, rfl, hs⟩ := hrel
    have hsum : wrap64 (base + (i : Int)) = base + i := IntWalk.wrap64_in _ (by omega)
    have x5 : wr.cell? ⟨n + 1, 5, none⟩ = some rv := cells_of hs.bat 5 _ rfl
    obtain ⟨ra, rc, rfl, -⟩ := (Sl.of_owns hs.row).shape
    by_cases hit : i < c
    · have j1 : (i : Int) < (c : Int) := by omega
      have hrow := fun o => hs.row.alloc o
      have hbse : ∀ o, n ≤ (wr.alloc o).heap.size := fun o => by have := hs.bel.size; simp only [World.size_alloc]; omega
      have hpu := fun g cap W5 ob h1 h2 => hs.more hln (W5 := W5) (ob := ob) (g := g) (cap := cap) h1 h2
      have HROW := Lib.hid hrow
      have HBSE := Lib.hid hbse
      have HPU := Lib.hid hpu
      clear hrow hbse hpu hs
      go_wp2_with (first | (at_builtin; refine wpList_append_lies _ rfl _ _ 38 rfl n 84 i0 _ 4 48 und_Recs4 hi hz0 hz1 hz2 rfl (by decide) (.slice ra i rc) i (recCells (recsK base i)) rfl (HROW.out _) _ 1 1 [.int .i64 (base + i), .string ⟨#[107]⟩, .string ⟨#[118]⟩, .bool false] rfl rfl (World.news_of_block (cs := #[.int .i64 (base + i), .string ⟨#[107]⟩, .string ⟨#[118]⟩, .bool false]) (t := 84) (fr := (0, 0)) (heap_alloc_new wr _)) (by simp [Value.oneCell']) (by decide) (by unfold maxLen; omega) (by omega) (HBSE.out _) _ rfl ?_; intro g5 cap5 w5 hown5 hgrow5 hat5 hlt5; obtain ⟨c5, z5, hfin⟩ := HPU.out _ _ _ _ hown5 hgrow5; have HFIN := Lib.hid hfin; clear hfin hown5 hgrow5 hat5 hlt5))
      go_roundg (c - (i + 1))
      case measure => omega
      case rel => exact ⟨i + 1, _, by omega, rfl, by go_num, HFIN.out⟩
    · obtain rfl : i = c := by omega
      have j1 : ¬ (i : Int) < (i : Int) := by omega
      obtain ⟨h1, h2, h3, h4⟩ := hs
      have b0 : wr.cell? ⟨n + 1, 0, none⟩ = some (.int .i64 base) := cells_of h2 0 _ rfl
      have b1 : wr.cell? ⟨n + 1, 1, none⟩ = some (.int .i64 (i : Int)) := cells_of h2 1 _ rfl
      have b2 : wr.cell? ⟨n + 1, 2, none⟩ = some (.int .i64 0) := cells_of h2 2 _ rfl
      have b3 : wr.cell? ⟨n + 1, 3, none⟩ = some (.int .i64 0) := cells_of h2 3 _ rfl
      have b4 : wr.cell? ⟨n + 1, 4, none⟩ = some (.int .i64 0) := cells_of h2 4 _ rfl
      have y0 : wr.cell? ⟨n, 0, none⟩ = some (.int .i64 0) := cells_of h1 0 _ rfl
      have y1 : wr.cell? ⟨n, 1, none⟩ = some (.int .i64 0) := cells_of h1 1 _ rfl
      have y2 : wr.cell? ⟨n, 2, none⟩ = some (.int .i64 0) := cells_of h1 2 _ rfl
      have y3 : wr.cell? ⟨n, 3, none⟩ = some (.int .i64 0) := cells_of h1 3 _ rfl
      have y4 : wr.cell? ⟨n, 4, none⟩ = some (.int .i64 0) := cells_of h1 4 _ rfl
      have y5 : wr.cell? ⟨n, 5, none⟩ = some (.slice none 0 0) := cells_of h1 5 _ rfl
      have zz : ∀ j, wr.frozen? ⟨n, j, none⟩ = false := fun _ => frozen_of h1
      have zz0 := zz 0
      have zz1 := zz 1
      have zz2 := zz 2
      have zz3 := zz 3
      have zz4 := zz 4
      have zz5 := zz 5
      have hqr : ∀ q, (Value.slice ra i rc).ownBlock = some q → q ≠ n := fun q hq e => by
        obtain ⟨cur, hc⟩ := owns_kind3 h3 q hq
        rw [e, h1] at hc
        simp at hc
      have HG := Lib.hid (And.intro h1 (And.intro h3 (And.intro h4 hqr)))
      clear h1 h2 h3 h4 zz hqr hi hz0 hz1 hz2
      go_wp2_with fail
      obtain ⟨q1, q3, q4, qr⟩ := HG.out
      obtain ⟨w1, w2⟩ := set6 q1 (.int .i64 base) (.int .i64 (i : Int)) (.int .i64 0) (.int .i64 0) (.int .i64 0) (.slice ra i rc)
      have v0 := cells_of w1 0 _ rfl
      have v1 := cells_of w1 1 _ rfl
      have v2 := cells_of w1 2 _ rfl
      have v3 := cells_of w1 3 _ rfl
      have v4 := cells_of w1 4 _ rfl
      have v5 := cells_of w1 5 _ rfl
      refine bodyPost_ret (v := (batK base i).v (.slice ra i rc)) ?_ rfl ⟨_, rfl, ?_, ?_⟩
      · simp only [Batch.v, batK]
        simp [results, Tryz.results58, go_sem, v0, v1, v2, v3, v4, v5]
      · exact owns_mono (owns_upd q3 w2 (fun q hq e => qr q hq e)) (by omega)
      · exact (q4.mono (by omega)).trans (w2.toBelow (by have := q4.size; omega) (fun k hk => by omega))
end Go.Proofs.YtcpaaleogmiamaaGreatDoor
namespace Go.Proofs.YtcpaaleogmiamaaGreatDoor
open Go.RowKit

theorem u64_mod7 (s m : Int) (hm : 0 < m) : ∃ n : Nat, (IntKind.u64.wrap s).tmod m = (n : Int) ∧ (n : Int) < m := by
  have h0 : 0 ≤ IntKind.u64.wrap s := by
    rw [IntKind.wrap_u64]
    omega
  have h1 := Int.tmod_nonneg m h0
  obtain ⟨n, hn⟩ := Int.eq_ofNat_of_zero_le h1
  exact ⟨n, hn, by rw [← hn]; exact Int.tmod_lt_of_pos _ hm⟩
/-- The size of a segment that a statement's number stands for. -/
def sizeS (seg : Int) : Int := wrap64 (1 + wrap64 ((IntKind.u64.wrap seg).tmod 400))
theorem sizeS_in (seg : Int) : 1 ≤ sizeS seg ∧ sizeS seg ≤ 400 := by
  obtain ⟨n, e, hl⟩ := u64_mod7 seg 400 (by omega)
  unfold sizeS
  rw [e]
  have h1 : wrap64 (n : Int) = n := IntWalk.wrap64_in _ (by omega)
  rw [h1]
  have h2 : wrap64 (1 + (n : Int)) = 1 + n := IntWalk.wrap64_in _ (by omega)
  rw [h2]
  omega

def partB : List UInt8 := [112, 97, 114, 116]
/-- A strand on a tape without files. -/
theorem openS_new (room : Int) (pre : List UInt8) (size : Int) : openS (newT room) pre size = (newT room, some ⟨pre, size, [], 0, false⟩, 0) := by
  have hd : (newT room).down = false := rfl
  have hf : ∀ n, fget (newT room).files n = none := fun _ => rfl
  have hdr : dropT (newT room) (freshN pre) = (newT room, 12) := by unfold dropT; rw [hd, if_neg (by decide), hf]
  have hnm : namesV (newT room) = [] := by simp [namesV, newT]
  have hft : findT (newT room) ⟨pre, size, [], (newT room).life, false⟩ = (newT room, ⟨pre, size, [], (newT room).life, false⟩, 0) := by simp [findT, hnm, findF]
  unfold openS
  rw [hd, if_neg (by decide), hdr]
  simp only
  rw [if_neg (by decide), hft]
  simp only
  rw [if_pos trivial]
  rfl

/-- What opened leaves. -/
def OdTo (w : World) (size : Int) (e : Ending) (w' : World) : Prop :=
  ∃ (b mb sb : Nat) (L : TpL) (S : Nat → Prop), e = .returned (.tuple #[.pointer (some ⟨b, 0, none⟩), .pointer (some ⟨sb, 0, none⟩)]) ∧ Sd w w' S sb b mb L ⟨partB, size, [], 0, false⟩ (newT 1048576)

theorem newTd (w : World) {w' : World} {room : Int} (h : TpAt w' (w.heap.size + 1) w.heap.size [] (newT room)) (hb : Below w.heap.size w w') : Td w w' (w.heap.size + 1) w.heap.size [] (newT room) :=
  ⟨h, fun y hy => by simp [newT] at hy, hb, fun k hk => by
    rcases hk with rfl | rfl | hk
    · omega
    · exact Nat.le_refl _
    · simp [tpBlocks] at hk⟩

set_option maxRecDepth 100000 in
set_option maxHeartbeats 4000000 in
theorem L7opened_any {w : World} (hE : Env w) (seg : Int) : Calls Tryz.prog 30 #[.int .i64 seg] w (OdTo w (sizeS seg)) := by
  have hs := sizeS_in seg
  obtain ⟨sz, hsz⟩ : ∃ sz, sizeS seg = sz := ⟨_, rfl⟩
  rw [hsz] at hs ⊢
  unfold sizeS at hsz
  have hop := fun W (hW : Td w W (w.heap.size + 1) w.heap.size [] (newT 1048576)) => StOpen_any (pre := partB) (size := sz) hE hW (by decide) ⟨hs.1, by omega⟩
  rw [openS_new] at hop
  have HOP := Lib.hid hop
  have e1 : bs partB = ⟨#[112, 97, 114, 116]⟩ := rfl
  rw [e1] at HOP
  have hnw := fun W => TNew_any 1048576 W
  have HNW := Lib.hid hnw
  clear hop hnw hs hE e1
  go_enter Tryz.func30, Tryz.ntmps30
  go_wp2_with fail
  refine (HNW.out _).mono ?_
  rintro _ w1 ⟨rfl, hat, hb⟩
  have htd := newTd w hat hb
  have HTD := Lib.hid htd
  clear hat hb htd HNW
  go_wp2_with fail
  refine (HOP.out _ HTD.out).mono ?_
  rintro e w2 ⟨L', hu, hL, ht, sb, S, rfl, hsd, hS⟩
  have HSD := Lib.hid hsd
  clear hu hL ht hS hsd HOP HTD
  go_wp2_with fail
  refine bodyPost_ret (v := .tuple #[.pointer (some ⟨w.heap.size + 1, 0, none⟩), .pointer (some ⟨sb, 0, none⟩)]) (by simp [results, Tryz.results30, go_sem]) rfl ⟨_, _, _, _, _, rfl, HSD.out⟩

/-! ### Calls at no strand -/
set_option maxRecDepth 100000 in
theorem StAppend_nil (w : World) : Calls Tryz.prog 33 #[.pointer none, .agg #[.int .i64 0, .int .i64 0, .int .i64 0, .int .i64 0, .int .i64 0, .slice none 0 0]] w fun e w' => e = .returned (.int .i64 2) ∧ Below w.heap.size w w' := by
  go_enter Tryz.func33, Tryz.ntmps33
  go_wp2_with (first | (go_at_call 86; refine (Stready_nil _).mono ?_; rintro _ w1 ⟨rfl, rfl⟩))
  go_ret
  exact ⟨rfl, below_alloc _ _⟩
set_option maxRecDepth 100000 in
theorem StSync_nil (w : World) : Calls Tryz.prog 36 #[.pointer none] w fun e w' => e = .returned (.int .i64 2) ∧ w' = w := by
  go_enter Tryz.func36, Tryz.ntmps36
  go_wp2_with (first | (go_at_call 86; refine (Stready_nil _).mono ?_; rintro _ w1 ⟨rfl, rfl⟩))
  go_ret
  exact ⟨rfl, rfl⟩
set_option maxRecDepth 100000 in
theorem StBases_nil (w : World) : Calls Tryz.prog 37 #[.pointer none] w fun e w' => e = .returned (.slice none 0 0) ∧ w' = w := by
  go_enter Tryz.func37, Tryz.ntmps37
  go_wp2_with fail
  go_ret
  exact ⟨rfl, rfl⟩
end Go.Proofs.YtcpaaleogmiamaaGreatDoor
namespace Go.Proofs.YtcpaaleogmiamaaGreatDoor
open Go.RowKit

theorem encI_ge (n : Int) : 3 ≤ (encI n).length := by
  have h : 0 < (Lib.itoa n).length := by
    unfold Lib.itoa
    split
    · simp
    · rw [Lib.decDigits]
      split <;> simp
  simp only [encI, List.length_cons, List.length_append, List.length_nil]
  omega
theorem encB_ge (b : Batch) (h : 1 ≤ b.recs.length) : 22 ≤ (encB b).length := by
  have h1 := encI_ge b.base
  have h2 := encI_ge b.count
  have h3 := encI_ge b.prod
  have h4 := encI_ge b.seq
  have h5 := encI_ge b.time
  obtain ⟨x, l, e⟩ : ∃ x l, b.recs = x :: l := by
    cases hb : b.recs with
    | nil => rw [hb] at h; simp at h
    | cons x l => exact ⟨x, l, rfl⟩
  have h6 := encI_ge x.off
  have h7 : 5 ≤ (b.recs.flatMap encR).length := by
    rw [e]
    simp only [List.flatMap_cons, List.length_append, encR, List.length_cons, List.length_nil]
    omega
  simp only [encB, List.length_cons, List.length_append, List.length_nil]
  omega

def pB : List UInt8 := [112]
def b0 : Batch := batK 0 2
def b2 : Batch := batK 2 3
def aB0 : List UInt8 := sgB [b0]
def aB2 : List UInt8 := sgB [b2]
def f0 : List UInt8 := fileN pB 0
def f2 : List UInt8 := fileN pB 2
def awX0 : St := ⟨pB, 30, [], 0, false⟩
def awT1 : Tp := ⟨[(f0, ⟨aB0, 0⟩)], 65536, false, 1, 0, 0⟩
def awX1 : St := ⟨pB, 30, [⟨0, [b0]⟩], 0, false⟩
def awT2 : Tp := ⟨[(f0, ⟨aB0, aB0.length⟩), (f2, ⟨aB2, 0⟩)], 65536, false, 3, 0, 0⟩
def awX2 (l : Int) : St := ⟨pB, 30, [⟨0, [b0]⟩, ⟨2, [b2]⟩], l, false⟩
def awT3 (l : Int) : Tp := ⟨[(f0, ⟨aB0, aB0.length⟩), (f2, ⟨aB2, aB2.length⟩)], 65536, false, 4, 0, l⟩

theorem good0 : goodB b0 = true := by decide
theorem good2 : goodB b2 = true := by decide
theorem f0_eq : f0 = [112, 46, 48, 48, 48, 48, 48, 48, 48, 48, 48, 48, 48, 48, 48] := by
  unfold f0 fileN pad13
  rw [Lib.decDigits, dif_pos (by decide)]
  rfl
theorem f2_eq : f2 = [112, 46, 48, 48, 48, 48, 48, 48, 48, 48, 48, 48, 48, 48, 50] := by
  unfold f2 fileN pad13
  rw [Lib.decDigits, dif_pos (by decide)]
  rfl
theorem f02 : ¬ f0 = f2 := by rw [f0_eq, f2_eq]; decide
theorem aB0_len : 30 ≤ aB0.length ∧ aB0.length ≤ 2008 := by
  unfold aB0
  have h := encB_ge b0 (by decide)
  have h2 := encB_len good0
  simp only [sgB, List.flatMap_cons, List.flatMap_nil, List.append_nil, frameB_len]
  omega
theorem aB2_len : aB2.length ≤ 2008 := by
  unfold aB2
  have h2 := encB_len good2
  simp only [sgB, List.flatMap_cons, List.flatMap_nil, List.append_nil, frameB_len]
  omega
theorem fr0 : frameB (encB b0) = aB0 := by simp [aB0, sgB]
theorem fr2 : frameB (encB b2) = aB2 := by simp [aB2, sgB]

theorem actT_calm {t : Tp} (h : t.armed = 0) : actT t = ({ t with acts := wrap64 (t.acts + 1) }, 0) := by unfold actT; rw [if_pos h]
theorem w64_0 : wrap64 ((0 : Int) + 1) = 1 := IntWalk.wrap64_in _ (by omega)
theorem w64_1 : wrap64 ((1 : Int) + 1) = 2 := IntWalk.wrap64_in _ (by omega)
theorem w64_2 : wrap64 ((2 : Int) + 1) = 3 := IntWalk.wrap64_in _ (by omega)
theorem w64_3 : wrap64 ((3 : Int) + 1) = 4 := IntWalk.wrap64_in _ (by omega)

theorem aw_a : appS (newT 65536) awX0 b0 = (awT1, awX1, 0) := by
  have hr : stReadyB (newT 65536) awX0 = false := by decide
  have hs : syncS (newT 65536) awX0 = (newT 65536, awX0, 0) := by rw [syncS, hr]; rfl
  have hf : fileS awX0 b0.base = f0 := rfl
  have hn : isNameB f0 = true := by rw [f0_eq]; decide
  have hl := aB0_len
  have ha : appT (newT 65536) f0 aB0 = (awT1, 0) := by
    unfold appT
    rw [show (newT 65536).down = false from rfl, if_neg (by decide), if_pos hn, show fget (newT 65536).files f0 = none from rfl]
    simp only
    rw [if_neg (by simp only [newT, dataSum, List.map_nil, List.sum_nil, List.length_nil]; omega), actT_calm rfl]
    simp only [newT, awT1, w64_0, List.nil_append]
    rfl
  have hfull : fullS (newT 65536) awX0 b0 = (awT1, awX1, 0) := by
    unfold fullS
    rw [hs]
    simp only
    rw [if_neg (by simp), hf, fr0, ha]
    rfl
  unfold appS
  rw [hr, if_neg (by decide), if_neg (by rw [good0]; decide), if_neg (by decide)]
  exact hfull
theorem aw_b : appS awT1 awX1 (batK 3 1) = (awT1, awX1, 20) := by
  have hr : stReadyB awT1 awX1 = false := by decide
  have hg : goodB (batK 3 1) = true := by decide
  unfold appS
  rw [hr, if_neg (by decide), if_neg (by rw [hg]; decide), if_pos (by decide)]
theorem aw_c : appS awT1 awX1 b2 = (awT2, awX2 0, 0) := by
  have hr : stReadyB awT1 awX1 = false := by decide
  have hl := aB0_len
  have hl2 := aB2_len
  have hf : fileS awX1 b2.base = f2 := rfl
  have hf0 : fileS awX1 0 = f0 := rfl
  have hn : isNameB f2 = true := by rw [f2_eq]; decide
  obtain ⟨t5, ht5⟩ : ∃ t5 : Tp, t5 = ⟨[(f0, ⟨aB0, aB0.length⟩)], 65536, false, 2, 0, 0⟩ := ⟨_, rfl⟩
  have hsy : syncT awT1 f0 = (t5, 0) := by
    unfold syncT
    rw [show awT1.down = false from rfl, if_neg (by decide), show fget awT1.files f0 = some ⟨aB0, 0⟩ from by simp [fget, awT1]]
    simp only
    rw [show actT awT1 = ({ awT1 with acts := 2 }, 0) from by rw [actT_calm rfl]; simp only [awT1, w64_1], if_pos rfl, ht5]
    simp [updF, awT1, syncF]
  have hs : syncS awT1 awX1 = (t5, awX1, 0) := by
    rw [syncS, hr, if_neg (by decide), show awX1.segs.getLast? = some ⟨0, [b0]⟩ from rfl]
    simp only
    rw [hf0, hsy]
    rfl
  have ha : appT t5 f2 aB2 = (awT2, 0) := by
    unfold appT
    rw [ht5]
    simp only
    rw [if_neg (by decide), if_pos hn, show fget [(f0, (⟨aB0, aB0.length⟩ : Fl))] f2 = none from by simp [fget, f02]]
    simp only
    rw [if_neg (by simp only [dataSum, List.map_cons, List.map_nil, List.sum_cons, List.sum_nil, List.length_cons, List.length_nil]; omega), actT_calm rfl]
    simp only [awT2, w64_2, List.cons_append, List.nil_append]
  have hfull : fullS awT1 awX1 b2 = (awT2, awX2 0, 0) := by
    unfold fullS
    rw [hs]
    simp only
    rw [if_neg (by simp), hf, fr2, ha]
    rfl
  unfold appS
  rw [hr, if_neg (by decide), if_neg (by rw [good2]; decide), if_neg (by decide), show awX1.segs.getLast? = some ⟨0, [b0]⟩ from rfl]
  simp only
  rw [if_neg (by
    have : (sgB [b0]).length = aB0.length := rfl
    rw [this]
    simp only [awX1]
    omega)]
  exact hfull
theorem aw_d : syncS awT2 (awX2 0) = (awT3 0, awX2 0, 0) := by
  have hr : stReadyB awT2 (awX2 0) = false := by decide
  have hf2 : fileS (awX2 0) 2 = f2 := rfl
  have hsy : syncT awT2 f2 = (awT3 0, 0) := by
    unfold syncT
    rw [show awT2.down = false from rfl, if_neg (by decide), show fget awT2.files f2 = some ⟨aB2, 0⟩ from by simp [fget, awT2, f02]]
    simp only
    rw [show actT awT2 = ({ awT2 with acts := 4 }, 0) from by rw [actT_calm rfl]; simp only [awT2, w64_3], if_pos rfl]
    simp [updF, awT2, awT3, syncF, f02]
  rw [syncS, hr, if_neg (by decide), show (awX2 0).segs.getLast? = some ⟨2, [b2]⟩ from rfl]
  simp only
  rw [hf2, hsy]
  rfl
theorem aw_on {t : Tp} (h : OnAt (offT (awT3 0)) t) : t = awT3 1 := by
  have ho : offT (awT3 0) = { awT3 1 with down := true } := by unfold offT; rw [if_neg (by simp [awT3])]; simp only [awT3, w64_0]
  rw [ho] at h
  unfold OnAt at h
  rw [if_pos rfl] at h
  obtain ⟨h1, h2, h3, h4, h5, h6⟩ := h
  obtain ⟨fl, rm, dn, ac, ar, lf⟩ := t
  simp only [awT3] at h1 h2 h3 h4 h5 h6
  subst h1 h2 h3 h4 h5
  have key : ∀ {f f' : Fl}, f.safe = f.data.length → KeptF f f' → f' = f := by
    rintro ⟨d, s⟩ f' hs ⟨g, hg, rfl⟩
    simp only at hs hg
    have : g = 0 := by omega
    subst this
    simp only [onF, Nat.add_zero, hs, List.take_length]
  cases h6 with
  | cons a1 r1 =>
    cases r1 with
    | cons a2 r2 =>
      cases r2
      rename_i y1 y2
      obtain ⟨n1, g1⟩ := y1
      obtain ⟨n2, g2⟩ := y2
      simp only at a1 a2
      obtain ⟨rfl, k1⟩ := a1
      obtain ⟨rfl, k2⟩ := a2
      rw [key rfl k1, key rfl k2]
      rfl
theorem aw_row : Row (awX2 0).segs := by
  refine ⟨⟨0, Int.le_refl _, rfl, ⟨good0, rfl, trivial⟩, ?_⟩, ?_, ?_⟩
  · exact ⟨rfl, ⟨good2, rfl, trivial⟩, trivial⟩
  · simp [awX2]
  · simp [awX2]
theorem aw_f0 (l : Int) : fget (awT3 l).files f0 = some ⟨aB0, aB0.length⟩ := by simp [fget, awT3]
theorem aw_f2 (l : Int) : fget (awT3 l).files f2 = some ⟨aB2, aB2.length⟩ := by simp [fget, awT3, f02]
theorem aw_tied (l : Int) : Tied pB (awX2 0).segs (awT3 l).files := by
  refine ⟨List.Perm.refl _, ?_, ?_⟩
  · intro g hg
    simp only [awX2, List.mem_cons, List.not_mem_nil, or_false] at hg
    rcases hg with rfl | rfl
    · exact ⟨_, aw_f0 l, rfl⟩
    · exact ⟨_, aw_f2 l, rfl⟩
  · intro g hg
    simp only [awX2, List.dropLast_cons_cons, List.dropLast_singleton, List.mem_cons, List.not_mem_nil, or_false] at hg
    subst hg
    exact ⟨_, aw_f0 l, rfl⟩
theorem aw_names (l : Int) : namesV (awT3 l) = [f0, f2] := (aw_tied l).namesV aw_row
theorem aw_open : openS (awT3 1) pB 30 = (awT3 1, some (awX2 1), 0) := by
  have hd : (awT3 1).down = false := rfl
  have hfr : fget (awT3 1).files (freshN pB) = none := by
    have h1 : ¬ f0 = freshN pB := by rw [f0_eq]; decide
    have h2 : ¬ f2 = freshN pB := by rw [f2_eq]; decide
    simp [fget, awT3, h1, h2]
  have hdr : dropT (awT3 1) (freshN pB) = (awT3 1, 12) := by unfold dropT; rw [hd, if_neg (by decide), hfr]
  obtain ⟨n, hn, hc⟩ := aw_row.chain
  have hw := findF_whole (pre := pB) hd (awX2 0).segs [] n hc (fun h => absurd rfl h) aw_row.lim (aw_tied 1).data aw_row.full
  have hft : findT (awT3 1) ⟨pB, 30, [], (awT3 1).life, false⟩ = (awT3 1, awX2 1, 0) := by
    unfold findT
    rw [aw_names]
    have e : (awX2 0).segs.map (nmS pB) = [f0, f2] := rfl
    rw [e] at hw
    simp only
    rw [hw]
    rfl
  unfold openS
  rw [hd, if_neg (by decide), hdr]
  simp only
  rw [if_neg (by decide), hft]
  simp only
  rw [if_pos trivial]
theorem aw_read : readF (awX2 1).segs 1 2 = [recK 0 1, recK 2 0] := by
  have h1 : ∀ c : Batch, c ∈ [b0, b2] → decide ((1 : Int) < c.base + c.count) = true := by decide
  unfold readF batF
  rw [show allB (awX2 1).segs = [b0, b2] from rfl, List.filter_eq_self.2 h1]
  rfl
end Go.Proofs.YtcpaaleogmiamaaGreatDoor
