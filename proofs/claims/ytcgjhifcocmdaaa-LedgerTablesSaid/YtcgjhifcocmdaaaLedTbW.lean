/- The walk of LedgerTables. -/
import Derived.Test.YtcgjhifcocmdaaaLedTb0
import Derived.Test.YtcgjhifcocmdaaaLedApW
namespace Go.Proofs.Ytcgjhifcocmdaaa
open Go.RowKit

theorem tbl_facts {L : List (Int × List Slot)} {bs : Nat → List Int} {e : Int} (h : OnceInv L bs e) (hok : ∀ x ∈ L, RowOk x.2 ∧ isNumB x.1 = true) (hn : (L.map (·.1)).Nodup) :
    ∀ q (hq : q < (tableS L).length), ∃ P m : Nat, P < 4 ∧ (tableS L)[q].1 = P ∧ (tableS L)[q].2.length = m + 1 ∧ m + 1 ≤ 5 ∧ m + 1 = min (bs P).length 5 ∧
      (∀ h' : m < (tableS L)[q].2.length, (tableS L)[q].2[m].seq + 1 = (bs P).length ∧ isNumB (tableS L)[q].2[m].seq = true) ∧ ∀ q', q = q' + 1 → ∀ h' : q' < (tableS L).length, (tableS L)[q'].1 < (tableS L)[q].1 := by
  intro q hq
  obtain ⟨⟨P, hP⟩, -, -⟩ := (table_says h hok hn).1 q hq
  have h1 := List.length_pos_iff.2 hP.ok.1
  refine ⟨P, (tableS L)[q].2.length - 1, hP.lt, hP.key, by omega, by have := hP.ok.2.1; omega, by have := hP.len; omega, fun h' => ⟨hP.last h', (hP.ok.2.2 _ h').1⟩, ?_⟩
  rintro q' rfl h'
  exact ((table_says h hok hn).1 q' h').2.2 hq

theorem tbl_short {L : List (Int × List Slot)} {bs : Nat → List Int} {e : Int} (h : OnceInv L bs e) (hn : (L.map (·.1)).Nodup) : L.length ≤ 4 := by
  have h1 := nodup_le 4 (L.map (·.1)) hn (by
    intro x hx
    obtain ⟨y, hy, rfl⟩ := List.mem_map.1 hx
    have := h.keys y hy
    exact ⟨this.1, by omega⟩)
  simpa using h1

theorem last_cell {w : World} {a : Option Addr} {cap n : Nat} {l : List Slot} (h : SlotsAt w (.slice a l.length cap) l) (hn : l.length = n + 1) :
    ∃ b off, a = some ⟨b, off, none⟩ ∧ b < w.heap.size ∧ w.cell? ⟨b, off + n * 3, none⟩ = some (.int .i64 (l[l.length - 1]'(by omega)).seq) := by
  obtain ⟨b, off, e, hb, h0, -, -⟩ := h.cells n (by omega)
  refine ⟨b, off, e, hb, ?_⟩
  have e2 : l.length - 1 = n := by omega
  simp only [e2]
  exact h0

theorem SeensAt.below {w w' : World} {v : Value} {T : List (Int × List Slot)} (h : SeensAt w v T) (hb : Below w.heap.size w w') : SeensAt w' v T := by
  obtain ⟨m, h1, h2⟩ := h
  exact ⟨m, h1.below hb, h2.kept (F := fun _ => False) (.of_below hb) (fun _ _ _ _ _ h => h)⟩

structure TRow (w : World) (N b off q b3 off3 sc P m : Nat) (sq : Int) (r : Nat) : Prop where
  lt : b < w.heap.size ∧ b3 < w.heap.size ∧ N + 2 < w.heap.size
  c0 : w.cell? ⟨b, off + q * 2, none⟩ = some (.int .i64 P)
  c1 : w.cell? ⟨b, off + q * 2 + 1, none⟩ = some (.slice (some ⟨b3, off3, none⟩) (m + 1) sc)
  c2 : w.cell? ⟨b3, off3 + m * 3, none⟩ = some (.int .i64 sq)
  c3 : w.cell? ⟨N + 2, P, none⟩ = some (.int .i64 r)
  num : P < 4 ∧ m + 1 ≤ 5 ∧ min (r : Int) 5 = (m : Int) + 1 ∧ sq + 1 = r ∧ 0 ≤ sq ∧ sq ≤ 1099511627776
  pre : ∀ q', q = q' + 1 → ∃ P' : Int, w.cell? ⟨b, off + q' * 2, none⟩ = some (.int .i64 P') ∧ P' < P

theorem TRow.below {w w' : World} {N b off q b3 off3 sc P m : Nat} {sq : Int} {r : Nat} (h : TRow w N b off q b3 off3 sc P m sq r) (hb : Below w.heap.size w w') : TRow w' N b off q b3 off3 sc P m sq r := by
  obtain ⟨⟨l1, l2, l3⟩, c0, c1, c2, c3, n, p⟩ := h
  have hs := hb.size
  refine ⟨⟨by omega, by omega, by omega⟩, below_some hb c0 l1, below_some hb c1 l1, below_some hb c2 l2, below_some hb c3 l3, n, ?_⟩
  intro q' e
  obtain ⟨P', h1, h2⟩ := p q' e
  exact ⟨P', below_some hb h1 l1, h2⟩

theorem tbl_cells {w : World} {N cap : Nat} {a : Option Addr} {L : List (Int × List Slot)} {bs : Nat → List Int} {e : Int} (hst : TSt N w L bs) (h : OnceInv L bs e) (hs : SeensAt w (.slice a (tableS L).length cap) (tableS L)) :
    ∀ q, q < (tableS L).length → ∃ b off b3 off3 sc P m sq r, a = some ⟨b, off, none⟩ ∧ TRow w N b off q b3 off3 sc P m sq r := by
  intro q hq
  obtain ⟨a', cap', e', -, hC⟩ := hs.cells
  simp only [Value.slice.injEq, true_and] at e'
  obtain ⟨rfl, rfl⟩ := e'
  obtain ⟨P, m, hP4, hkey, hlen, hm5, hmin, hlast, hpre⟩ := tbl_facts h hst.led.ok hst.led.nodup q hq
  obtain ⟨b, off, sa, sc, rfl, hb, d0, d1, hsl⟩ := hC q hq
  obtain ⟨b3, off3, rfl, hb3, d2⟩ := last_cell hsl hlen
  obtain ⟨h1, h2⟩ := hlast (by omega)
  have e2 : (tableS L)[q].2.length - 1 = m := by omega
  simp only [e2] at d2
  rw [hkey] at d0
  rw [hlen] at d1
  refine ⟨b, off, b3, off3, sc, P, m, _, (bs P).length, rfl, ⟨hb, hb3, World.block_lt_of_cell? _ _ (hst.cell hP4)⟩, d0, d1, d2, hst.cell hP4, ⟨hP4, hm5, by omega, h1, by simpa [isNumB] using h2⟩, ?_⟩
  rintro q' rfl
  obtain ⟨b4, off4, sa4, sc4, e4, hb4, f0, -, -⟩ := hC q' (by omega)
  obtain ⟨rfl, rfl⟩ : b = b4 ∧ off = off4 := by simpa using e4
  have := hpre q' rfl (by omega)
  rw [hkey] at this
  exact ⟨_, f0, this⟩

theorem add_steps {L : List (Int × List Slot)} {bs : Nat → List Int} {k : Nat} (h : OnceInv L bs k) (hn : (L.map (·.1)).Nodup) {p s : Nat} (hp : p < 4) (hs : s < 30) (hk : k < 120) :
    ∃ L' bs' n, addS L (bat p s k) = (L', n) ∧ OnceInv L' bs' ((k : Int) + 1) ∧ ((n = 0 ∧ bs' = updf bs p (bs p ++ [(k : Int)]) ∧ s = (bs p).length) ∨ ((n == 0) = false ∧ bs' = bs)) := by
  by_cases e : s = (bs p).length
  · obtain ⟨L', h1, h2⟩ := once_next h hn hp (by omega) (e := k) (by omega) (by omega)
    exact ⟨L', _, 0, by rw [e]; exact h1, h2, .inl ⟨rfl, rfl, e⟩⟩
  · refine ⟨L, bs, (checkS (rowOf L p) p s).2, once_other h hp (by omega) (by omega) (by omega) e, h.mono (by omega), .inr ⟨?_, rfl⟩⟩
    rw [h.rows p hp, checkS_mkRow _ _ _ (by omega) (by omega), if_neg e]
    split
    · rfl
    · split <;> rfl

set_option maxRecDepth 100000 in
set_option maxHeartbeats 4000000 in
theorem Tables_any {w : World} {v : Value} {l : List (Int × Int)} (h : PairsAt w v l) :
    Calls Try.prog 6 #[v] w fun e w' => e = .returned (.bool true) ∧ Below w.heap.size w w' := by
  obtain ⟨a, cap, rfl, hl, hc⟩ := h
  have HC := Lib.hid hc
  clear hc
  have hl' : (l.length : Int) ≤ 9223372036854775807 := by omega
  clear hl
  go_enter Try.func6, Try.ntmps6
  go_wp2_with fail
  refine (awake_any _).mono ?_
  rintro e w1 ⟨rfl, hb1⟩
  go_wp2_with fail
  refine (LedNew_any _).mono ?_
  rintro e w2 ⟨rfl, rfl⟩
  go_wp2
  have hN := hb1.size
  go_loopg [5] l.length (fun gk i wr => ∃ (k : Nat) (L : List (Int × List Slot)) (bs : Nat → List Int), k ≤ l.length ∧ gk = l.length - k ∧ k ≤ 120 ∧ i = .int .i64 k ∧ TSt w1.heap.size wr L bs ∧ OnceInv L bs k ∧ Below w.heap.size w wr)
  case atStart =>
    exact ⟨0, [], fun _ => [], Nat.zero_le _, rfl, by omega, rfl, TSt.start w1, once_start, hb1.trans (((below_alloc2 w1 _ _).alloc (by simp; omega) _).mono hN)⟩
  case round =>
    obtain ⟨k, L, bs, hk, rfl, hk2, rfl, hst, hinv, hbel⟩ := hrel
    have HS := Lib.hid (And.intro hst hinv)
    clear hst hinv
    have hsz := hbel.size
    by_cases hlt : k < l.length
    · by_cases hlt2 : k < 120
      · obtain ⟨b, off, rfl, hb, c0, c1⟩ := HC.out k hlt
        have c0 := below_some hbel c0 hb
        have c1 := below_some hbel c1 hb
        generalize l[k].1 = x at *
        generalize l[k].2 = y at *
        obtain ⟨p, hp, hp4⟩ := u64mod x 4 (by omega) (by omega)
        obtain ⟨s, hs, hs30⟩ := u64mod y 30 (by omega) (by omega)
        have hp : wrap64 ((IntKind.u64.wrap x).tmod 4) = p := hp
        have hs : wrap64 ((IntKind.u64.wrap y).tmod 30) = s := hs
        have hp' : IntKind.i64.wrap ((IntKind.u64.wrap x).tmod 4) = p := (IntWalk.i64_left _).trans hp
        have hs' : IntKind.i64.wrap ((IntKind.u64.wrap y).tmod 30) = s := (IntWalk.i64_left _).trans hs
        have i1 : (k : Int) < (l.length : Int) := by omega
        have i2 : (k : Int) < 120 := by omega
        have i3 : (0 : Int) ≤ (k : Int) := by omega
        have hbr : b < wr.heap.size := by omega
        go_upto_region 8 with fail
        go_cut [6] from 16 to 131 (fun v wc => ∃ tb sb : Nat, v = .pointer (some ⟨tb, 0, none⟩) ∧ w1.heap.size + 3 ≤ tb ∧ TSt w1.heap.size wc L bs ∧ Below w.heap.size w wc ∧ Sl wc 50 4 (.slice (some ⟨sb, 0, none⟩) 1 1) (bat p s k).recs.length (recCells (bat p s k).recs) ∧
          wc.cell? ⟨tb, 2, none⟩ = some (.int .i64 p) ∧ wc.cell? ⟨tb, 3, none⟩ = some (.int .i64 s) ∧ wc.cell? ⟨tb, 0, none⟩ = some (.int .i64 k) ∧ wc.cell? ⟨tb, 1, none⟩ = some (.int .i64 1) ∧ wc.cell? ⟨tb, 4, none⟩ = some (.int .i64 0) ∧ wc.cell? ⟨tb, 5, none⟩ = some (.slice (some ⟨sb, 0, none⟩) 1 1))
        case first =>
          go_region_held3 (fun w' => w'.cell? ⟨b, off + k * 2, none⟩ = some (.int .i64 x) ∧ w'.cell? ⟨b, off + k * 2 + 1, none⟩ = some (.int .i64 y))
            (first | with_reducible exact ⟨c0, c1⟩ | with_reducible exact ⟨below_some ((Below.refl wr.heap.size wr).drew) c0 hbr, below_some ((Below.refl wr.heap.size wr).drew) c1 hbr⟩ | with_reducible exact ⟨below_some (below_alloc wr _) c0 hbr, below_some (below_alloc wr _) c1 hbr⟩ | with_reducible exact ⟨below_some ((below_alloc wr _).drew) c0 hbr, below_some ((below_alloc wr _).drew) c1 hbr⟩ | (have hg := hbw; first | with_reducible exact ⟨below_some hbw c0 hbr, below_some hbw c1 hbr⟩ | with_reducible exact ⟨below_some (hbw.alloc hbw.size _) c0 hbr, below_some (hbw.alloc hbw.size _) c1 hbr⟩ | with_reducible exact ⟨below_some ((((((hbw.setCell (Nat.le_refl _) _).setCell (Nat.le_refl _) _).setCell (Nat.le_refl _) _).setCell (Nat.le_refl _) _).setCell (Nat.le_refl _) _).setCell (Nat.le_refl _) _) c0 hbr, below_some ((((((hbw.setCell (Nat.le_refl _) _).setCell (Nat.le_refl _) _).setCell (Nat.le_refl _) _).setCell (Nat.le_refl _) _).setCell (Nat.le_refl _) _).setCell (Nat.le_refl _) _) c1 hbr⟩))
            (first
              | (go_at_call 11; refine (batch_any3 _ _ _ _ wr ?_).mono ?_; (first | with_reducible exact (Below.refl _ _).drew | with_reducible exact ((Below.refl _ _).alloc (Nat.le_refl _) _).drew); rintro e w2 ⟨rfl, hrec, hb2, hbw⟩; have hs2 := hb2.size; simp only [World.size_alloc, World.size_drew] at hs2 hrec; obtain ⟨hc2, hf2⟩ := bcell hb2))
          · have hst2 := HS.out.1.below hbw
            have s1 := hbw.size
            obtain ⟨sb, hsb⟩ : ∃ sb, sb = wr.heap.size + 1 := ⟨_, rfl⟩
            rw [← hsb] at hrec ⊢
            have hbx := heap_alloc_new w2 (.cells #[.int .i64 k, .int .i64 1, .int .i64 p, .int .i64 s, .int .i64 0, .slice (some ⟨sb, 0, none⟩) 1 1] 39)
            have htw := hst2.below (below_alloc w2 (.cells #[.int .i64 k, .int .i64 1, .int .i64 p, .int .i64 s, .int .i64 0, .slice (some ⟨sb, 0, none⟩) 1 1] 39))
            have hbW := (hbel.trans (hbw.mono hsz)).trans ((below_alloc w2 (.cells #[.int .i64 k, .int .i64 1, .int .i64 p, .int .i64 s, .int .i64 0, .slice (some ⟨sb, 0, none⟩) 1 1] 39)).mono (Nat.le_trans hsz s1))
            have hrW := hrec.below (below_alloc w2 (.cells #[.int .i64 k, .int .i64 1, .int .i64 p, .int .i64 s, .int .i64 0, .slice (some ⟨sb, 0, none⟩) 1 1] 39))
            generalize hWe : w2.alloc (.cells #[.int .i64 k, .int .i64 1, .int .i64 p, .int .i64 s, .int .i64 0, .slice (some ⟨sb, 0, none⟩) 1 1] 39) = W at *
            have htbN : wr.heap.size ≤ w2.heap.size := s1
            generalize w2.heap.size = tb at *
            clear hWe hsb
            clear hc2 hf2 hb2 hbw
            have HB := Lib.hid (And.intro hbx (And.intro htw (And.intro hbW hrW)))
            have t0 : W.cell? ⟨tb, 0, none⟩ = some (.int .i64 k) := by rw [cell_of_row W _ _ _ _ _ hbx]; rfl
            have t1 : W.cell? ⟨tb, 1, none⟩ = some (.int .i64 1) := by rw [cell_of_row W _ _ _ _ _ hbx]; rfl
            have t2 : W.cell? ⟨tb, 2, none⟩ = some (.int .i64 p) := by rw [cell_of_row W _ _ _ _ _ hbx]; rfl
            have t3 : W.cell? ⟨tb, 3, none⟩ = some (.int .i64 s) := by rw [cell_of_row W _ _ _ _ _ hbx]; rfl
            have t4 : W.cell? ⟨tb, 4, none⟩ = some (.int .i64 0) := by rw [cell_of_row W _ _ _ _ _ hbx]; rfl
            have t5 : W.cell? ⟨tb, 5, none⟩ = some (.slice (some ⟨sb, 0, none⟩) 1 1) := by rw [cell_of_row W _ _ _ _ _ hbx]; rfl
            clear hbx htw hbW hrW
            have hNW : w1.heap.size + 3 ≤ tb := Nat.le_trans (Array.getElem?_eq_some_iff.1 HS.out.1.nx.choose_spec.1).1 htbN
            go_wp2_with fail
            go_meet
            exact ⟨tb, sb, rfl, hNW, HB.out.2.1, HB.out.2.2.1, HB.out.2.2.2, t2, t3, t0, t1, t4, t5⟩
          · have s1 := hbw.size
            obtain ⟨sb, hsb⟩ : ∃ sb, sb = wr.heap.size + 1 + 1 := ⟨_, rfl⟩
            rw [← hsb] at hrec ⊢
            have hb0 := (hb2.block wr.heap.size (by simp)).trans (heap_alloc_new wr (.cells #[.int .i64 0, .int .i64 0, .int .i64 0, .int .i64 0, .int .i64 0, .slice none 0 0] 39))
            have hbx : ((((((w2.setCell ⟨wr.heap.size, 0, none⟩ (.int .i64 k)).setCell ⟨wr.heap.size, 1, none⟩ (.int .i64 1)).setCell ⟨wr.heap.size, 2, none⟩ (.int .i64 p)).setCell ⟨wr.heap.size, 3, none⟩ (.int .i64 s)).setCell ⟨wr.heap.size, 4, none⟩ (.int .i64 0)).setCell ⟨wr.heap.size, 5, none⟩ (.slice (some ⟨sb, 0, none⟩) 1 1)).heap[wr.heap.size]? = some (.cells #[.int .i64 k, .int .i64 1, .int .i64 p, .int .i64 s, .int .i64 0, .slice (some ⟨sb, 0, none⟩) 1 1] 39) := (setCell_same (setCell_same (setCell_same (setCell_same (setCell_same (setCell_same hb0))))))
            have h6 : Below wr.heap.size wr ((((((w2.setCell ⟨wr.heap.size, 0, none⟩ (.int .i64 k)).setCell ⟨wr.heap.size, 1, none⟩ (.int .i64 1)).setCell ⟨wr.heap.size, 2, none⟩ (.int .i64 p)).setCell ⟨wr.heap.size, 3, none⟩ (.int .i64 s)).setCell ⟨wr.heap.size, 4, none⟩ (.int .i64 0)).setCell ⟨wr.heap.size, 5, none⟩ (.slice (some ⟨sb, 0, none⟩) 1 1)) := ((((((hbw.setCell (Nat.le_refl _) _).setCell (Nat.le_refl _) _).setCell (Nat.le_refl _) _).setCell (Nat.le_refl _) _).setCell (Nat.le_refl _) _).setCell (Nat.le_refl _) _)
            have hu6 : Upd (fun q => q = wr.heap.size) w2 ((((((w2.setCell ⟨wr.heap.size, 0, none⟩ (.int .i64 k)).setCell ⟨wr.heap.size, 1, none⟩ (.int .i64 1)).setCell ⟨wr.heap.size, 2, none⟩ (.int .i64 p)).setCell ⟨wr.heap.size, 3, none⟩ (.int .i64 s)).setCell ⟨wr.heap.size, 4, none⟩ (.int .i64 0)).setCell ⟨wr.heap.size, 5, none⟩ (.slice (some ⟨sb, 0, none⟩) 1 1)) := (upd_setCell (upd_setCell (upd_setCell (upd_setCell (upd_setCell (upd_setCell (Upd.refl (fun q => q = wr.heap.size) w2) rfl _) rfl _) rfl _) rfl _) rfl _) rfl _)
            have htw := HS.out.1.below h6
            have hbW := hbel.trans (h6.mono hsz)
            have hrW := hrec.keptT hu6 (fun q cur fz hq e => by rw [e, hb0] at hq; simp at hq)
            generalize hWe : ((((((w2.setCell ⟨wr.heap.size, 0, none⟩ (.int .i64 k)).setCell ⟨wr.heap.size, 1, none⟩ (.int .i64 1)).setCell ⟨wr.heap.size, 2, none⟩ (.int .i64 p)).setCell ⟨wr.heap.size, 3, none⟩ (.int .i64 s)).setCell ⟨wr.heap.size, 4, none⟩ (.int .i64 0)).setCell ⟨wr.heap.size, 5, none⟩ (.slice (some ⟨sb, 0, none⟩) 1 1)) = W at *
            obtain ⟨tb, htb⟩ : ∃ tb, tb = wr.heap.size := ⟨_, rfl⟩
            rw [← htb] at hbx ⊢
            have htbN : wr.heap.size ≤ tb := by omega
            clear hWe hsb hb0 h6 hu6 htb
            clear hc2 hf2 hb2 hbw
            have HB := Lib.hid (And.intro hbx (And.intro htw (And.intro hbW hrW)))
            have t0 : W.cell? ⟨tb, 0, none⟩ = some (.int .i64 k) := by rw [cell_of_row W _ _ _ _ _ hbx]; rfl
            have t1 : W.cell? ⟨tb, 1, none⟩ = some (.int .i64 1) := by rw [cell_of_row W _ _ _ _ _ hbx]; rfl
            have t2 : W.cell? ⟨tb, 2, none⟩ = some (.int .i64 p) := by rw [cell_of_row W _ _ _ _ _ hbx]; rfl
            have t3 : W.cell? ⟨tb, 3, none⟩ = some (.int .i64 s) := by rw [cell_of_row W _ _ _ _ _ hbx]; rfl
            have t4 : W.cell? ⟨tb, 4, none⟩ = some (.int .i64 0) := by rw [cell_of_row W _ _ _ _ _ hbx]; rfl
            have t5 : W.cell? ⟨tb, 5, none⟩ = some (.slice (some ⟨sb, 0, none⟩) 1 1) := by rw [cell_of_row W _ _ _ _ _ hbx]; rfl
            clear hbx htw hbW hrW
            have hNW : w1.heap.size + 3 ≤ tb := Nat.le_trans (Array.getElem?_eq_some_iff.1 HS.out.1.nx.choose_spec.1).1 htbN
            go_wp2_with fail
            go_meet
            exact ⟨tb, sb, rfl, hNW, HB.out.2.1, HB.out.2.2.1, HB.out.2.2.2, t2, t3, t0, t1, t4, t5⟩
        case rest =>
          obtain ⟨tb, sb, rfl, hNW, htw, hbW, hrW, t2, t3, t0, t1, t4, t5⟩ := hcut
          have HB := Lib.hid (And.intro htw (And.intro hbW hrW))
          clear htw hbW hrW hp hs hp' hs' c0 c1
          obtain ⟨L', bs', n, hadd, hinv', hcase⟩ := add_steps HS.out.2 HS.out.1.led.nodup hp4 hs30 hlt2
          have HA := Lib.hid (And.intro hadd (And.intro hinv' hcase))
          clear hadd hinv' hcase
          go_upto_if 47 with (go_at_call 10; refine (LedAdd_any HB.out.1.led (bat p s k) _ HB.out.2.2).mono ?_; rintro _ w3 ⟨rfl, hl3, hu3⟩)
          have u := fun o v (h : wc.cell? ⟨tb, o, none⟩ = some v) => upd_some hu3 h (by omega)
          have s2 := u 2 _ t2
          have s3 := u 3 _ t3
          have hb3 : Below w.heap.size w w3 := below_upd HB.out.2.1 hu3 hN (by have := HB.out.2.1.size; omega)
          rw [HA.out.1] at hl3 ⊢
          have hst3 := HB.out.1.step hu3 hl3
          have H3 := Lib.hid (And.intro hst3 hb3)
          clear u hl3 hu3 hst3 hb3 t0 t1 t2 t3 t4 t5
          go_cut [] from 16 to 131 (fun wd => TSt w1.heap.size wd L' bs' ∧ Below w.heap.size w wd)
          case first =>
            rcases HA.out.2.2 with ⟨rfl, rfl, e⟩ | ⟨hn0, rfl⟩
            · subst e
              have cn := H3.out.1.cell hp4
              have cf := H3.out.1.unfrozen p
              have hp4' : (p : Int) < 4 := by omega
              have hp0 : (0 : Int) ≤ (p : Int) := by omega
              have hs40 : ((bs p).length : Int) < 30 := by omega
              have hw1 : IntKind.i64.wrap (((bs p).length : Int) + 1) = ((bs p).length : Int) + 1 := IntWalk.i64_in _ (by omega)
              go_wp2_with fail
              go_meet
              exact ⟨H3.out.1.took hp4 k, H3.out.2.setCell (by show w.heap.size ≤ w1.heap.size + 2; omega) _⟩
            · go_wp2_with fail
              go_meet
              exact H3.out
          case rest =>
            rename_i wd _
            have HD := Lib.hid hcut
            clear hcut
            go_wp2_with fail
            refine (LedTable_any HD.out.1.led ?_).mono ?_
            · have := tbl_short HA.out.2.1 HD.out.1.led.nodup
              omega
            rintro _ w5 ⟨v, rfl, hseen, hb5⟩
            obtain ⟨ta, tcap, rfl, htl, -⟩ := hseen.cells
            have hist := table_isTable HA.out.2.1 HD.out.1.led.ok HD.out.1.led.nodup
            have hst5 := HD.out.1.below hb5
            have hb05 := HD.out.2.trans (hb5.mono HD.out.2.size)
            have HT := Lib.hid (And.intro (tbl_cells hst5 HA.out.2.1 hseen) (And.intro hist (And.intro hst5 (And.intro hb05 (And.intro HA.out.2.1 hseen)))))
            clear hist hst5 hb05 hseen hb5 HA H3 s2 s3
            generalize tableS L' = T at *
            have htl' : (T.length : Int) ≤ 9223372036854775807 := by unfold maxLen at htl; omega
            clear htl
            go_wp2
            go_loopg [8] T.length (fun gq i wq => ∃ q : Nat, q ≤ T.length ∧ gq = T.length - q ∧ i = .int .i64 q ∧ Below w5.heap.size w5 wq)
            case atStart => exact ⟨0, Nat.zero_le _, rfl, rfl, Below.refl _ _⟩
            case round =>
              obtain ⟨q, hq, rfl, rfl, hbq⟩ := hrel
              by_cases hqlt : q < T.length
              · obtain ⟨b2, off2, b3, off3, sc, P, m, sq, r, rfl, hrow⟩ := HT.out.1 q hqlt
                obtain ⟨⟨l1, l2, l3⟩, d0, d1, d2, d3, ⟨hP4, hm5, hmin, hsq, hsq0, hsq1⟩, hpre⟩ := hrow.below hbq
                have k1 : decide ((m : Int) + 1 < 1) = false := by simp; omega
                have k2 : decide ((5 : Int) < (m : Int) + 1) = false := by simp; omega
                have k3 : IntKind.i64.wrap ((m : Int) + 1 - 1) = (m : Int) := by rw [IntWalk.i64_in _ (by omega)]; omega
                have k4 : IntKind.i64.wrap (m : Int) = (m : Int) := IntWalk.i64_in _ (by omega)
                have k5 : IntKind.i64.wrap (sq + 1) = (r : Int) := by rw [hsq]; exact IntWalk.i64_in _ (by omega)
                have k7 : (0 : Int) ≤ (m : Int) := by omega
                have k8 : (m : Int) < (m : Int) + 1 := by omega
                have k9 : (P : Int) < 4 := by omega
                have k10 : (0 : Int) ≤ (P : Int) := by omega
                have k11 : (q : Int) < (T.length : Int) := by omega
                have k12 : (0 : Int) ≤ (q : Int) := by omega
                clear hrow hm5 hP4 hsq hsq0 hsq1
                obtain rfl | ⟨q', rfl⟩ : q = 0 ∨ ∃ q', q = q' + 1 := by cases q <;> simp
                · simp only [Nat.zero_mul, Nat.add_zero] at d0 d1
                  clear hpre
                  go_wp2
                  go_quiet (fail)
                  go_wp2
                  go_roundg (T.length - 1)
                  case measure => omega
                  case rel => exact ⟨1, by omega, rfl, by go_num, below_drewN hbq _⟩
                · obtain ⟨P', f0, hlt1⟩ := hpre q' rfl
                  have m1 : decide ((0 : Int) < (q' : Int) + 1) = true := decide_eq_true (by omega)
                  have m2 : IntKind.i64.wrap ((q' : Int) + 1 - 1) = (q' : Int) := by rw [IntWalk.i64_in _ (by omega)]; omega
                  have m3 : IntKind.i64.wrap (q' : Int) = (q' : Int) := IntWalk.i64_in _ (by omega)
                  have m4 : decide ((P : Int) ≤ P') = false := by simp; omega
                  have m5 : (q' : Int) < (T.length : Int) := by omega
                  have m6 : (0 : Int) ≤ (q' : Int) := by omega
                  have m7 : (q' : Int) + 1 < (T.length : Int) := by omega
                  have m8 : (0 : Int) ≤ (q' : Int) + 1 := by omega
                  clear hpre hlt1 k11 k12
                  go_wp2
                  go_quiet (fail)
                  go_wp2
                  go_roundg (T.length - (q' + 1 + 1))
                  case measure => omega
                  case rel => exact ⟨q' + 1 + 1, by omega, rfl, by go_num, below_drewN hbq _⟩
              · have k11 : ¬ (q : Int) < (T.length : Int) := by omega
                have k13 : decide ((q : Int) < (T.length : Int)) = false := by simp; omega
                go_wp2_with fail
                refine (LedFrom_any (SeensAt.below HT.out.2.2.2.2.2 hbq)).mono ?_
                rintro _ w6 hF
                rcases hF with ⟨-, bp, B, rfl, -, hb6⟩ | ⟨hno, -, -⟩
                case inr => rw [HT.out.2.1] at hno; cases hno
                have hb56 := below_trans hbq hb6
                have HZ := Lib.hid (And.intro (HT.out.2.2.1.below hb56) (And.intro HT.out.2.2.2.2.1 (HT.out.2.2.2.1.trans (hb56.mono HT.out.2.2.2.1.size))))
                clear hb56 hb6 hbq
                go_wp2
                go_roundg (l.length - (k + 1))
                case measure => omega
                case rel => exact ⟨k + 1, L', bs', by omega, rfl, by omega, by go_num, HZ.out.1, HZ.out.2.1, HZ.out.2.2⟩
      · have i2 : ¬ (k : Int) < 120 := by omega
        have i1 : (k : Int) < (l.length : Int) := by omega
        go_wp2
        go_ret
        exact ⟨rfl, hbel⟩
    · have i1 : ¬ (k : Int) < (l.length : Int) := by omega
      go_wp2
      go_ret
      exact ⟨rfl, hbel⟩
end Go.Proofs.Ytcgjhifcocmdaaa
