/- The walk of (*Ledger).Table. -/
import Derived.Test.YtjkobbmdemooaaaGreatDoorLedK
namespace Go.Proofs.YtjkobbmdemooaaaGreatDoor
open Go.RowKit

theorem und_Seens : Tryz.prog.underlying 48 = some (.slice 105) := by kernel_rfl
theorem info_Seen : (Tryz.prog.info? 105).map (fun i => (i.zero, i.size, i.bytes)) = some (some (.agg #[.int .i64 0, .slice none 0 0]), 2, 32) := by kernel_rfl

def Tabled (w : World) (T : List (Int × List Slot)) (e : Ending) (w' : World) : Prop :=
  ∃ v, e = .returned v ∧ SeensAt w' v T ∧ Below w.heap.size w w'

theorem grownBy_of_below {w w' : World} (h : Below w.heap.size w w') : w.grownBy w' none := ⟨h.os, h.tape, h.output, h.size, fun k hk _ => h.block k hk⟩

set_option maxRecDepth 100000 in
set_option maxHeartbeats 1000000 in
theorem LedTable_any {w : World} {v : Value} {B : Nat} {L : List (Int × List Slot)} (h : LedAt w v B L) (hL : L.length ≤ 100000) :
    Calls Tryz.prog 35 #[v] w (Tabled w (tableS L)) := by
  obtain ⟨bp, rv0, rfl, hbp, hcp, -⟩ := h.look 0
  obtain ⟨⟨bp', m, e, hne, -, hm, hr⟩, hok, hnd⟩ := h
  obtain rfl : bp = bp' := by simpa using e
  have hl := hr.length
  have hkeys : m.map (·.1) = L.map (·.1) := by
    clear hm hok hnd e hl hL
    induction m generalizing L with
    | nil => cases L with
      | nil => rfl
      | cons => exact hr.elim
    | cons p m ih => cases L with
      | nil => exact hr.elim
      | cons q L => simp [hr.1, ih hr.2.2]
  have hwf : ∀ p ∈ m, isNumB p.1 = true := by
    intro p hp
    have : p.1 ∈ L.map (·.1) := by rw [← hkeys]; exact List.mem_map.2 ⟨p, hp, rfl⟩
    obtain ⟨q, hq, e⟩ := List.mem_map.1 this
    rw [← e]; exact (hok q hq).2
  have hL0 : LedAt w (.pointer (some ⟨bp, 0, none⟩)) B L := ⟨⟨bp, m, rfl, hne, hcp, hm, hr⟩, hok, hnd⟩
  have sorted := Sorted_any hm hwf (by omega)
  rw [hkeys] at sorted
  have HS := Lib.hid sorted
  have H0 := Lib.hid hL0
  clear sorted hr hok hnd hm hwf e hkeys hl hne
  obtain ⟨i0, hi, hz0, hz1, hz2⟩ := info_parts info_Seen
  go_enter Tryz.func35, Tryz.ntmps35
  go_wp2_with (first
    | (go_at_call 73; refine (Keys_any _ _).mono ?_; rintro e w1 ⟨rfl, rfl⟩)
    | (go_at_call 72; refine HS.out.mono ?_; rintro e w2 ⟨kv, rfl, hkrow, hb2⟩; obtain ⟨ka, kcap, rfl, hkc⟩ := (Sl.of_owns hkrow).shape))
  have hks : (L.map (·.1)).length = (sortedKeys L).length := by simp [sortedKeys]
  have hkl : (sortedKeys L).length = L.length := by simp [sortedKeys]
  have hb02 : Below w.heap.size w w2 := below_trans (below_alloc w _) hb2
  have hkrow2 : Sl w2 3 1 (.slice ka (L.map (·.1)).length kcap) (L.map (·.1)).length ((sortedKeys L).map (Value.int .i64)) := Sl.of_owns hkrow
  have hkc : ∀ k (h : k < (sortedKeys L).length), ∃ b off, ka = some ⟨b, off, none⟩ ∧ b < w2.heap.size ∧ w2.cell? ⟨b, off + k, none⟩ = some (.int .i64 (sortedKeys L)[k]) := by
    intro k hk
    obtain ⟨b, off, cap, e, _, _, hb, hc⟩ := hkrow2.at (by omega)
    simp only [Value.slice.injEq, true_and] at e
    exact ⟨b, off, e.1, hb, hc k _ (by simp [hk])⟩
  have hT : ∀ k (h : k < (sortedKeys L).length), (tableS L).take (k + 1) = (tableS L).take k ++ [((sortedKeys L)[k], rowOf L (sortedKeys L)[k])] := by
    intro k hk
    rw [List.take_succ_eq_append_getElem (by simpa [tableS] using hk)]
    simp [tableS]
  have hTl : (tableS L).length = (sortedKeys L).length := by simp [tableS]
  have HKC := Lib.hid (And.intro hkc (And.intro hT (And.intro hTl hkl)))
  have hn63 : (L.length : Int) ≤ 100000 := by omega
  clear hkc hT hTl hkrow2 hkrow hks
  have HN := Lib.hid hkl
  clear hkl
  go_loopw [3, 5, 15] (fun out _ i wr => ∃ (k : Nat) (mm : List (Int × Value)), k ≤ L.length ∧ i = .int .i64 k ∧ mm.length = k ∧ wr.ownsRow w2.heap.size 105 2 out mm.length (seenCells mm) ∧ MRel wr mm ((tableS L).take k) ∧ Below w2.heap.size w2 wr)
    (fun _ _ i _ => L.length - (intOf i).toNat)
  case atStart => exact ⟨0, [], Nat.zero_le _, rfl, rfl, World.ownsRow_nil _ _ _ _, trivial, Below.refl _ _⟩
  case round =>
    obtain ⟨k, mm, hk, rfl, hmk, hown, hrel, hbel⟩ := hrel
    have HX := Lib.hid (And.intro hmk (And.intro hown hrel))
    clear hmk hown hrel
    have hsz := hbel.size
    by_cases hlt : k < L.length
    · have hlt' : k < (sortedKeys L).length := by rw [HN.out]; exact hlt
      obtain ⟨kb, koff, rfl, hkb, hkcell⟩ := HKC.out.1 k hlt'
      have hkcell := below_some hbel hkcell hkb
      have hLr := H0.out.below (below_trans hb02 hbel)
      generalize hp : (sortedKeys L)[k] = p at *
      have HP := Lib.hid hp
      clear hp
      obtain ⟨bp', rv, e, hbpr, hcpr, hsl, hokr, hlu⟩ := hLr.look p
      obtain rfl : bp = bp' := by simpa using e
      have hlk := hlu wr (Upd.refl _ _)
      have h5 : (rowOf L p).length ≤ 1000000 := by
        rcases hokr with h | h
        · rw [h]; decide
        · have := h.2.1; omega
      have hclone := CloneSlots_any hsl h5
      have HC := Lib.hid hclone
      clear hclone hlu hokr
      go_wp2_with (first
        | (go_at_call 71; refine HC.out.mono ?_; rintro e w4 ⟨cv, rfl, hcown, hb4⟩; obtain ⟨ca, ccap, rfl, -⟩ := (Sl.of_owns hcown).shape)
        | (at_builtin; refine wpList_append_own _ rfl _ _ 48 rfl w2.heap.size 105 i0 _ 2 32 und_Seens hi hz0 hz1 hz2 rfl (by decide) _ mm.length (seenCells mm) rfl ((HX.out.2.1.kept (grownBy_of_below hb4) (by cases Value.ownBlock _ <;> simp)).alloc _) ⟨w4.heap.size, 0, none⟩ 1 1 [.int .i64 p, .slice ca (rowOf L p).length ccap] rfl rfl (World.news_of_block (cs := #[.int .i64 p, .slice ca (rowOf L p).length ccap]) (t := 105) (fr := (0, 0)) (heap_alloc_new w4 _)) ?_ ?_ ?_ ?_ ?_; (simp [Value.oneCell']); (rw [HX.out.1]; unfold maxLen; omega); (rw [HX.out.1]; omega); (have hz4 := hb4.size; simp only [World.size_alloc]; omega); intro out' w5 hown5 hgrow5 hnil5))
      obtain ⟨hmk, hown, hrel⟩ := HX.out
      have hz4 := hb4.size
      have hx : w4.heap.size ≤ (w4.alloc (.cells #[.int .i64 p, .slice ca (rowOf L p).length ccap] 105)).heap.size := by simp
      have hbel5 : Below w2.heap.size w2 w5 := by
        refine (((hbel.trans (hb4.mono hsz)).alloc (by omega) _).grown hgrow5 (by simp only [World.size_alloc]; omega) (fun k e => (hown.lt k e).1))
      have hup5 : Upd (fun k => some k = u3.ownBlock) wr w5 := by
        refine ((Upd.of_below hb4).trans (upd_alloc _ _ _)).trans ⟨hgrow5.os, hgrow5.tape, hgrow5.output, hgrow5.size, fun k hk hne => hgrow5.block k hk hne⟩
      have hF : ∀ k cur fz, wr.heap[k]? = some (.cells cur 69 fz) → ¬ some k = u3.ownBlock := by
        intro k cur fz hb e
        rcases hown.2 with ⟨rfl, _⟩ | ⟨g, cap, cur', rfl, _, hg, _⟩
        · simp [Value.ownBlock] at e
        · simp only [Value.ownBlock, Option.some.injEq] at e
          subst e
          rw [hg] at hb
          simp at hb
      have hrel5 : MRel w5 (mm ++ [(p, .slice ca (rowOf L p).length ccap)]) ((tableS L).take (k + 1)) := by
        rw [HKC.out.2.1 k hlt', HP.out]
        refine (hrel.keptT hup5 hF).snoc rfl ?_
        have h4 : SlotsAt w4 (.slice ca (rowOf L p).length ccap) (rowOf L p) := Sl.of_owns hcown
        refine Sl.keptT (F := fun k => some k = u3.ownBlock) h4 ((upd_alloc _ w4 _).trans ⟨hgrow5.os, hgrow5.tape, hgrow5.output, hgrow5.size, fun k hk hne => hgrow5.block k hk hne⟩) ?_
        intro k cur fz hb e
        rcases hown.2 with ⟨rfl, _⟩ | ⟨g, cap, cur', rfl, _, hg, _⟩
        · simp [Value.ownBlock] at e
        · simp only [Value.ownBlock, Option.some.injEq] at e
          subst e
          rw [hb4.block k (Array.getElem?_eq_some_iff.1 hg).1, hg] at hb
          simp at hb
      have hown5' : w5.ownsRow w2.heap.size 105 2 out' (mm ++ [(p, Value.slice ca (rowOf L p).length ccap)]).length (seenCells (mm ++ [(p, Value.slice ca (rowOf L p).length ccap)])) := by
        have e : seenCells (mm ++ [(p, Value.slice ca (rowOf L p).length ccap)]) = seenCells mm ++ [.int .i64 p, .slice ca (rowOf L p).length ccap] := by simp [seenCells]
        rw [e, List.length_append]; exact hown5
      have HFIN := Lib.hid (And.intro hown5' (And.intro hrel5 (And.intro hbel5 hmk)))
      clear hown5' hrel5 hbel5 hmk hown hrel hup5 hF hgrow5 hnil5 hown5
      go_wp2
      go_roundw
      case rel => exact ⟨k + 1, _, by omega, by go_num, by simp [HFIN.out.2.2.2], HFIN.out.1, HFIN.out.2.1, HFIN.out.2.2.1⟩
      case measure => simp [intOf]; omega
    · have e : (tableS L).take k = tableS L := List.take_of_length_le (by rw [HKC.out.2.2.1, HN.out]; omega)
      go_wp2
      go_ret
      obtain ⟨hmk, hown, hrel⟩ := HX.out
      rw [e] at hrel
      exact ⟨_, rfl, ⟨mm, Sl.of_owns hown, hrel⟩, below_trans hb02 hbel⟩
end Go.Proofs.YtjkobbmdemooaaaGreatDoor
