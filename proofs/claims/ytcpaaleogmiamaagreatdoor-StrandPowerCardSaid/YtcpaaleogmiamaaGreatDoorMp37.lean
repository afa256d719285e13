/- The walk of strand.drop. -/
/- The walk of strand.Reset. -/
import Derived.Test.YtcpaaleogmiamaaGreatDoorMp36
import Derived.Test.YtcpaaleogmiamaaGreatDoorMp23
import Derived.Test.YtcpaaleogmiamaaGreatDoorMp27
namespace Go.Proofs.YtcpaaleogmiamaaGreatDoor
open Go.RowKit

def dropS (t : Tp) (x : St) (i : Nat) : Nat → Tp × St × Int
  | 0 => (t, x, 0)
  | k + 1 => match x.segs[i]? with
    | none => (t, x, 0)
    | some g => if (dropT t (fileS x g.base)).2 = 0 then dropS (dropT t (fileS x g.base)).1 { x with segs := x.segs.eraseIdx i } i k
      else ((dropT t (fileS x g.base)).1, stDid x (dropT t (fileS x g.base)).2, (dropT t (fileS x g.base)).2)

/-- What stands in a round of drop. -/
def DrR (w0 w : World) (S : Nat → Prop) (sb b mb : Nat) (L : TpL) (i : Nat) (R : Tp × St × Int) (g : Nat) (wr : World) : Prop :=
  ∃ (L' : TpL) (x' : St) (t' : Tp) (gv : Value) (m : List (Value × Sg)) (D : Nat → Prop), Sd w0 wr S sb b mb L' x' t' ∧ StIn wr S sb b x' gv m D ∧ Upd (SdF S b mb L) w wr ∧ (∀ k ∈ tpBlocks L', k ∈ tpBlocks L ∨ w.heap.size ≤ k) ∧ dropS t' x' i g = R ∧ i + g ≤ x'.segs.length ∧ x'.segs.length ≤ 1000000

theorem StOk.erase {x : St} (h : StOk x) (i : Nat) : StOk { x with segs := x.segs.eraseIdx i } := ⟨h.pre, h.size, fun g hg => h.segs g (List.mem_of_mem_eraseIdx hg)⟩

theorem StIn.one {w : World} {S : Nat → Prop} {sb tb : Nat} {x : St} {gv : Value} {m : List (Value × Sg)} {D : Nat → Prop} (h : StIn w S sb tb x gv m D) : ∀ u ∈ sgCells m, u.oneCell' = true := by
  intro u hu
  obtain ⟨y, hy, hu⟩ := List.mem_flatMap.1 hu
  obtain ⟨la, lc, e, -⟩ := BsRd.cells (h.lists y hy).here
  simp only [List.mem_cons, List.not_mem_nil, or_false] at hu
  rcases hu with rfl | rfl | rfl
  · rfl
  · rw [e]; rfl
  · rfl

set_option maxRecDepth 100000 in
set_option maxHeartbeats 4000000 in
theorem Stdrop_any {w0 w : World} {S : Nat → Prop} {sb b mb : Nat} {L : TpL} {x : St} {t : Tp} (hE : Env w0) (h : Sd w0 w S sb b mb L x t) (i n : Nat) (hin : i + n ≤ x.segs.length) (hsl : x.segs.length ≤ 1000000) :
    Calls Tryz.prog 123 #[.pointer (some ⟨sb, 0, none⟩), .int .i64 (i : Int), .int .i64 (n : Int)] w (SdTo w0 w S sb b mb L (dropS t x i n)) := by
  obtain ⟨R, hR⟩ : ∃ R, dropS t x i n = R := ⟨_, rfl⟩
  rw [hR]
  have h0 : DrR w0 w S sb b mb L i R n w := by
    obtain ⟨gv, m, D, hi⟩ := h.st
    exact ⟨L, x, t, gv, m, D, h, hi, Upd.refl _ _, fun _ h => .inl h, hR, hin, hsl⟩
  have H0 := Lib.hid h0
  have hni : i ≤ 1000000 ∧ n ≤ 1000000 := by omega
  clear h h0 hR hin hsl
  go_enter Tryz.func123, Tryz.ntmps123
  go_wp2
  go_loopg [9] n (fun gk v9 wr => ∃ k : Nat, k ≤ n ∧ gk = n - k ∧ v9 = .int .i64 (k : Int) ∧ DrR w0 w S sb b mb L i R (n - k) wr)
  case atStart => exact ⟨0, Nat.zero_le _, by simp, rfl, by simpa using H0.out⟩
  case round =>
    obtain ⟨k, hk, rfl, rfl, L5, x5, t5, gv, m, D, hd, hi, hu, hL, hRq, hlen, hs5⟩ := hrel
    by_cases hlt : k < n
    · have hix : i < x5.segs.length := by omega
      have hnk : n - k = (n - (k + 1)) + 1 := by omega
      rw [hnk, dropS, List.getElem?_eq_getElem hix] at hRq
      simp only at hRq
      obtain ⟨g, hg⟩ : ∃ g, x5.segs[i] = g := ⟨_, rfl⟩
      rw [hg] at hRq
      obtain ⟨ga, gc, rfl, hml, hsg⟩ := hi.seg
      obtain ⟨gb, -, -, rfl, -⟩ := hsg i hix
      have hgo := hd.ok.segs g (by rw [← hg]; exact List.getElem_mem _)
      obtain ⟨gn, hgn⟩ : ∃ gn : Nat, g.base = gn := ⟨g.base.toNat, by omega⟩
      have hfn : fileS x5 g.base = fileN x5.pre gn := by rw [fileS, hgn]; rfl
      rw [hfn] at hRq
      obtain ⟨fnm, hfm⟩ : ∃ fnm, fileN x5.pre gn = fnm := ⟨_, rfl⟩
      rw [hfm] at hRq
      have hf := fun W (hW : Below wr.heap.size wr W) => Stfile_any (n := gn) ((hd.below hW).env hE) (hd.below hW).st hd.ok (by omega)
      rw [hfm] at hf
      have hts := fun W (hW : Below wr.heap.size wr W) => TDrop_any (hd.tp.below hW) fnm
      obtain ⟨c, hc⟩ : ∃ c, (dropT t5 fnm).2 = c := ⟨_, rfl⟩
      have hnkk := dropT_names hd.names fnm
      obtain ⟨t', ht'⟩ : ∃ t', (dropT t5 fnm).1 = t' := ⟨_, rfl⟩
      rw [hc, ht'] at hts hRq
      rw [ht'] at hnkk
      have hcell : ∀ W d, StIn W S sb b { x5 with dead := d } (.slice (some ⟨gb, 0, none⟩) x5.segs.length gc) m D → W.cell? ⟨sb, 0, none⟩ = some (.pointer (some ⟨b, 0, none⟩)) ∧ W.cell? ⟨sb, 3, none⟩ = some (.slice (some ⟨gb, 0, none⟩) x5.segs.length gc) ∧ W.cell? ⟨gb, i * 3, none⟩ = some (.int .i64 (gn : Int)) := by
        intro W d hW
        have hml : m.length = x5.segs.length := hW.len
        have hms : m.map (·.2) = x5.segs := hW.segs
        have hk : i < m.length := by omega
        have e : m[i].2 = g := by rw [← hg]; simp only [← hms, List.getElem_map]
        refine ⟨hW.cells.1, hW.cells.2.2.2.1, ?_⟩
        rw [(hW.segk i hk).1, e, hgn]
      have hdc := fun W (hW : StIn W S sb b x5 (.slice (some ⟨gb, 0, none⟩) x5.segs.length gc) m D) => Stdid_in hW c
      have HF := Lib.hid hf
      have HTS := Lib.hid hts
      have HCL := Lib.hid hcell
      have HDC := Lib.hid hdc
      have HIN := Lib.hid hi
      have HNK := Lib.hid hnkk
      have HD := Lib.hid hd
      have HU := Lib.hid (And.intro hu hL)
      have HRQ := Lib.hid hRq
      have hK : ∀ W, Below wr.heap.size wr W → W.cell? ⟨sb, 0, none⟩ = some (.pointer (some ⟨b, 0, none⟩)) ∧ W.cell? ⟨sb, 3, none⟩ = some (.slice (some ⟨gb, 0, none⟩) x5.segs.length gc) ∧ W.cell? ⟨gb, i * 3, none⟩ = some (.int .i64 (gn : Int)) := fun W hW => HCL.out W x5.dead (HIN.out.below hW)
      obtain ⟨k0, k1, k2⟩ := hK wr (Below.refl _ _)
      have HK := Lib.hid hK
      have hxl : x5.segs.length ≤ 9223372036854775807 := by omega
      clear hf hts hcell hdc hi hnkk hd hu hL hRq hK hsg hgo hg hgn hfn hfm hc ht' hnk
      go_upto_region 3 with fail
      go_region_held3 (fun W' => W'.cell? ⟨sb, 0, none⟩ = some (.pointer (some ⟨b, 0, none⟩)) ∧ W'.cell? ⟨sb, 3, none⟩ = some (.slice (some ⟨gb, 0, none⟩) x5.segs.length gc) ∧ W'.cell? ⟨gb, i * 3, none⟩ = some (.int .i64 (gn : Int)))
        (first | with_reducible exact ⟨k0, k1, k2⟩ | with_reducible exact HK.out _ (Below.refl _ _).drew | (have hg := hk5; with_reducible exact hk5) | (have hg := hk4; with_reducible exact hk4) | (have hg := hk3; with_reducible exact hk3))
        (first
          | (go_at_call 91; refine (HF.out _ ?_).mono ?_; (first | with_reducible exact Below.refl _ _ | with_reducible exact (Below.refl _ _).drew); rintro _ w3 ⟨rfl, hb3⟩; have h03 : Below wr.heap.size wr w3 := (Below.refl _ wr).drew.trans (hb3.mono (Nat.le_refl _)); have hk3 := HK.out w3 h03)
          | (go_at_call 95; have hg := h03; refine (HTS.out _ h03).mono ?_; rintro _ w4 ⟨rfl, L4, ht4, hu4, hn4⟩; have hi4 := Sd.tapeIn (HIN.out.below h03) HD.out.apart hu4; have hk4 := HCL.out _ x5.dead hi4)
          | (go_at_call 90; have hg := hi4; refine (HDC.out _ hi4).mono ?_; rintro _ w5 ⟨rfl, hi5, hu5⟩; have hk5 := HCL.out _ _ hi5))
      by_cases hc0 : c = 0
      · subst hc0
        obtain ⟨L6, -, hd6, hi6, hu6, hL6⟩ := SyTo.acted HD.out h03 ht4 hu4 hn4 HNK.out hi5 hu5
        simp only [stDid_zero] at hd6 hi6
        have hR6 : dropS t' { x5 with segs := x5.segs.eraseIdx i } i (n - (k + 1)) = R := by rw [← HRQ.out, if_pos rfl]
        have hmx : m.length = x5.segs.length := hi6.len
        have hrow := hi6.row
        rw [hmx] at hrow
        have hdel := DeleteSeg_any hrow hix hi6.one
        rw [show ((i + 1 : Nat) : Int) = (i : Int) + 1 from by omega] at hdel
        have hwi : wrap64 ((i : Int) + 1) = (i : Int) + 1 := by rw [← IntWalk.i64_left]; exact IntWalk.i64_in _ (by omega)
        have c3 := hi6.cells.2.2.2.1
        have HDL := Lib.hid hdel
        have H6 := Lib.hid (And.intro hd6 (And.intro hi6 (And.intro hu6 (And.intro hL6 (And.intro hR6 hmx)))))
        clear hdel hd6 hi6 hu6 hL6 hR6 hmx hrow hi5 hu5 ht4 hu4 hn4 h03 hk3 hk4 hk5 k0 k1 k2 hi4 hb3 HF HTS HCL HDC HK
        go_wp2_with fail
        refine HDL.out.mono ?_
        rintro _ w6 ⟨rfl, ho6, hu7⟩
        obtain ⟨d1, d2, d3⟩ := H6.out.2.1.del i (by rw [H6.out.2.2.2.2.2]; exact hix) H6.out.2.2.2.2.2.symm ho6 hu7
        have c6 := cells_of (d3.trans H6.out.2.1.blk) 3 _ rfl
        have z6 : w6.frozen? ⟨sb, 3, none⟩ = false := frozen_of (d3.trans H6.out.2.1.blk)
        have hrel : DrR w0 w S sb b mb L i R (n - (k + 1)) (w6.setCell ⟨sb, 3, none⟩ (.slice (some ⟨gb, 0, none⟩) (x5.segs.length - 1) gc)) := by
          have hD6 := H6.out.1
          have hU := HU.out.1
          refine ⟨L6, { x5 with segs := x5.segs.eraseIdx i }, t', _, _, D, ⟨⟨_, _, _, d1⟩, hD6.tp.upd d2 (fun q hq => hD6.apart q hq), hD6.apart, hD6.ok.erase i, hD6.names, hD6.base.trans (d2.toBelow hD6.base.size hD6.aboveS), hD6.aboveS, hD6.aboveT⟩, d1, ?_, ?_, H6.out.2.2.2.2.1, ?_, ?_⟩
          · have h1 : Upd (fun q => SdF S b mb L q ∨ w.heap.size ≤ q) wr w5 := H6.out.2.2.1.mono (fun q _ hq => hq.elim (fun h => .inl (.inl h)) (fun h => (TpF.new HU.out.2 q h).imp .inr id))
            have h2 : Upd (fun q => SdF S b mb L q ∨ w.heap.size ≤ q) w5 (w6.setCell ⟨sb, 3, none⟩ (.slice (some ⟨gb, 0, none⟩) (x5.segs.length - 1) gc)) := d2.mono (fun q _ hq => .inl (.inl hq))
            exact (((hU.mono (fun q _ h => Or.inl h)).trans h1).trans h2).mono (fun q hq h => h.elim id (fun h => by omega))
          · intro q hq
            rcases H6.out.2.2.2.1 q hq with h | h
            · exact HU.out.2 q h
            · exact .inr (Nat.le_trans hU.size h)
          · simp only [List.length_eraseIdx_of_lt hix]
            omega
          · simp only [List.length_eraseIdx_of_lt hix]
            omega
        have HREL := Lib.hid hrel
        clear hrel d1 d2 d3 ho6 hu7 H6 HDL HU HD HIN HRQ HNK c3
        go_wp2
        go_roundg (n - (k + 1))
        case measure => omega
        case rel => exact ⟨k + 1, by omega, rfl, by go_num, HREL.out⟩
      · have hc1 : (c != 0) = true := by simpa using hc0
        have hfin : SdTo w0 w S sb b mb L R (.returned (.int .i64 c)) w5 := by
          rw [← HRQ.out, if_neg hc0]
          exact SdTo.since HU.out.1 (fun _ h => .inl h) HU.out.2 (SdTo.acted HD.out h03 ht4 hu4 hn4 HNK.out ⟨_, _, _, hi5⟩ hu5)
        have HFIN := Lib.hid hfin
        clear hfin hi5 hu5 ht4 hu4 hn4 h03 hk3 hk4 hk5 k0 k1 k2 hi4 hb3 hc0
        go_wp2
        go_ret
        exact HFIN.out
    · obtain rfl : k = n := by omega
      rw [Nat.sub_self] at hRq
      have hfin : SdTo w0 w S sb b mb L R (.returned (.int .i64 0)) wr := by
        rw [← hRq]
        exact ⟨S, L5, rfl, hd, hu, fun _ h => .inl h, hL⟩
      have HFIN := Lib.hid hfin
      clear hfin hd hi hu hL hRq hlen hs5
      go_wp2
      go_ret
      exact HFIN.out
end Go.Proofs.YtcpaaleogmiamaaGreatDoor
namespace Go.Proofs.YtcpaaleogmiamaaGreatDoor
open Go.RowKit

def resetA (t : Tp) (x : St) (off : Int) : Tp × St × Int :=
  if (appT t (fileS x off) []).2 = 0 then syncS (appT t (fileS x off) []).1 { x with segs := x.segs ++ [⟨off, []⟩] }
  else ((appT t (fileS x off) []).1, stDid x (appT t (fileS x off) []).2, (appT t (fileS x off) []).2)
def resetS (t : Tp) (x : St) (off : Int) : Tp × St × Int :=
  if stReadyB t x = true then (t, x, 10)
  else if off < 0 ∨ 1099511627776 < off then (t, x, 1)
  else if (dropS t x 0 x.segs.length).2.2 = 0 then resetA (dropS t x 0 x.segs.length).1 (dropS t x 0 x.segs.length).2.1 off
  else dropS t x 0 x.segs.length

theorem dropS_len (t : Tp) (x : St) (i : Nat) : ∀ (k : Nat), (dropS t x i k).2.1.segs.length ≤ x.segs.length
  | 0 => Nat.le_refl _
  | k + 1 => by
    rw [dropS]
    split
    · exact Nat.le_refl _
    · split
      · refine Nat.le_trans (dropS_len _ _ i k) ?_
        simp only [List.length_eraseIdx]
        split <;> omega
      · exact Nat.le_refl _

set_option maxRecDepth 100000 in
set_option maxHeartbeats 4000000 in
theorem StReset_any {w0 w : World} {S : Nat → Prop} {sb b mb : Nat} {L : TpL} {x : St} {t : Tp} (hE : Env w0) (h : Sd w0 w S sb b mb L x t) (off : Int) (hsl : x.segs.length ≤ 1000) :
    Calls Tryz.prog 53 #[.pointer (some ⟨sb, 0, none⟩), .int .i64 off] w (SdTo w0 w S sb b mb L (resetS t x off)) := by
  obtain ⟨R, hR⟩ : ∃ R, resetS t x off = R := ⟨_, rfl⟩
  rw [hR]
  have hrd := Stready_any h.st h.tp
  obtain ⟨rb, hrb⟩ : ∃ r, stReadyB t x = r := ⟨_, rfl⟩
  rw [hrb] at hrd
  rw [resetS, hrb] at hR
  have HR := Lib.hid hrd
  have H := Lib.hid h
  clear hrd hrb h
  cases rb with
  | true =>
    rw [if_pos rfl] at hR
    simp only [if_true] at HR
    subst hR
    go_enter Tryz.func53, Tryz.ntmps53
    go_wp2_with (first | (go_at_call 86; refine HR.out.mono ?_; rintro _ w1 ⟨rfl, hb1⟩))
    go_ret
    exact SdTo.same H.out 10 hb1
  | false =>
    rw [if_neg (by decide)] at hR
    simp only [Bool.false_eq_true, if_false] at HR
    by_cases hlo : off < 0
    · rw [if_pos (.inl hlo)] at hR
      subst hR
      go_enter Tryz.func53, Tryz.ntmps53
      go_wp2_with (first | (go_at_call 86; refine HR.out.mono ?_; rintro _ w1 ⟨rfl, hb1⟩))
      go_ret
      exact SdTo.same H.out 1 hb1
    by_cases hhi : 1099511627776 < off
    · rw [if_pos (.inr hhi)] at hR
      subst hR
      go_enter Tryz.func53, Tryz.ntmps53
      go_wp2_with (first | (go_at_call 86; refine HR.out.mono ?_; rintro _ w1 ⟨rfl, hb1⟩))
      go_ret
      exact SdTo.same H.out 1 hb1
    rw [if_neg (by omega)] at hR
    obtain ⟨on, hon⟩ : ∃ on : Nat, off = on := ⟨off.toNat, by omega⟩
    subst hon
    have hon2 : on ≤ 1099511627776 := by omega
    obtain ⟨n, hn⟩ : ∃ n, x.segs.length = n := ⟨_, rfl⟩
    obtain ⟨gv, m, D, hin⟩ := H.out.st
    obtain ⟨ga, gc, rfl, -⟩ := hin.seg
    have hc3 : ∀ W, Below w.heap.size w W → W.cell? ⟨sb, 3, none⟩ = some (.slice ga n gc) := fun W hW => by rw [← hn]; exact (hin.below hW).cells.2.2.2.1
    have hdr : ∀ W, Below w.heap.size w W → Calls Tryz.prog 123 #[.pointer (some ⟨sb, 0, none⟩), .int .i64 0, .int .i64 (n : Int)] W (SdTo w0 W S sb b mb L (dropS t x 0 n)) := fun W hW => Stdrop_any hE (H.out.below hW) 0 n (by omega) (by omega)
    have hdl := dropS_len t x 0 n
    rw [hn] at hR hdl
    obtain ⟨dr, hdre⟩ : ∃ dr, dropS t x 0 n = dr := ⟨_, rfl⟩
    rw [hdre] at hdr hR hdl
    obtain ⟨t2, x2, c2⟩ := dr
    simp only at hR hdl
    have HC := Lib.hid hc3
    have HDR := Lib.hid hdr
    have HRR := Lib.hid hR
    have hx2l : x2.segs.length ≤ 1000 := by omega
    clear hc3 hdr hR hin hdre hdl
    go_enter Tryz.func53, Tryz.ntmps53
    go_wp2_with fail
    refine HR.out.mono ?_
    rintro _ w1 ⟨rfl, hb1⟩
    have c3 := HC.out _ hb1
    have HB := Lib.hid hb1
    clear hb1
    go_wp2_with fail
    refine (HDR.out _ HB.out).mono ?_
    rintro e w2 hs
    have hfin := SdTo.since (Upd.of_below HB.out) (fun _ h => .inl h) (fun _ h => .inl h) hs
    obtain ⟨S2, L2, rfl, hd2, hu2, hS2, hL2⟩ := hfin
    simp only at hd2
    clear hs c3
    by_cases hc2 : c2 = 0
    case neg =>
      have hc21 : (c2 != 0) = true := by simpa using hc2
      have hfin : SdTo w0 w S sb b mb L R (.returned (.int .i64 c2)) w2 := by rw [← HRR.out, if_neg hc2]; exact ⟨S2, L2, rfl, hd2, hu2, hS2, hL2⟩
      have HFIN := Lib.hid hfin
      clear hfin hd2 hu2 hS2 hL2 hc2
      go_wp2
      go_ret
      exact HFIN.out
    case pos =>
    subst hc2
    have hRq := HRR.out
    rw [if_pos rfl, resetA] at hRq
    obtain ⟨gv2, m2, D2, hi2⟩ := hd2.st
    obtain ⟨ga2, gc2, rfl, -⟩ := hi2.seg
    have hfn : fileS x2 (on : Int) = fileN x2.pre on := by rw [fileS]; rfl
    rw [hfn] at hRq
    obtain ⟨fnm, hfm⟩ : ∃ fnm, fileN x2.pre on = fnm := ⟨_, rfl⟩
    rw [hfm] at hRq
    have hf := fun W (hW : Below w2.heap.size w2 W) => Stfile_any (n := on) ((hd2.below hW).env hE) (hd2.below hW).st hd2.ok (by omega)
    rw [hfm] at hf
    have hts := fun W (hW : Below w2.heap.size w2 W) => TAppend_any (hd2.tp.below hW) fnm [] (by simp)
    obtain ⟨c, hc⟩ : ∃ c, (appT t2 fnm []).2 = c := ⟨_, rfl⟩
    have hnk := appT_names hd2.names fnm []
    obtain ⟨t', ht'⟩ : ∃ t', (appT t2 fnm []).1 = t' := ⟨_, rfl⟩
    rw [hc, ht'] at hts hRq
    rw [ht'] at hnk
    have e0 : bs [] = (⟨#[]⟩ : ByteArray) := rfl
    rw [e0] at hts
    have hcl : ∀ W d, StIn W S2 sb b { x2 with dead := d } (.slice ga2 x2.segs.length gc2) m2 D2 → W.cell? ⟨sb, 0, none⟩ = some (.pointer (some ⟨b, 0, none⟩)) := fun W d hW => hW.cells.1
    have hdc := fun W (hW : StIn W S2 sb b x2 (.slice ga2 x2.segs.length gc2) m2 D2) => Stdid_in hW c
    have k0 := hcl w2 x2.dead hi2
    have hK : ∀ W, Below w2.heap.size w2 W → W.cell? ⟨sb, 0, none⟩ = some (.pointer (some ⟨b, 0, none⟩)) := fun W hW => hcl W x2.dead (hi2.below hW)
    have HF := Lib.hid hf
    have HTS := Lib.hid hts
    have HCL := Lib.hid hcl
    have HDC := Lib.hid hdc
    have HIN := Lib.hid hi2
    have HNK := Lib.hid hnk
    have HD := Lib.hid hd2
    have HU := Lib.hid (And.intro hu2 (And.intro hS2 hL2))
    have HRQ := Lib.hid hRq
    have HK := Lib.hid hK
    clear hf hts hcl hdc hi2 hnk hd2 hu2 hS2 hL2 hRq hK hfn hfm hc ht' e0 HRR HDR HC HR HB
    go_upto_region 9 with fail
    go_region_held3 (fun W' => W'.cell? ⟨sb, 0, none⟩ = some (.pointer (some ⟨b, 0, none⟩)))
      (first | with_reducible exact k0 | with_reducible exact HK.out _ (Below.refl _ _).drew | (have hg := hk5; with_reducible exact hk5) | (have hg := hk4; with_reducible exact hk4) | (have hg := hk3; with_reducible exact hk3))
      (first
        | (go_at_call 91; refine (HF.out _ ?_).mono ?_; (first | with_reducible exact Below.refl _ _ | with_reducible exact (Below.refl _ _).drew); rintro _ w3 ⟨rfl, hb3⟩; have h03 : Below w2.heap.size w2 w3 := (Below.refl _ w2).drew.trans (hb3.mono (Nat.le_refl _)); have hk3 := HK.out w3 h03)
        | (go_at_call 44; have hg := h03; refine (HTS.out _ h03).mono ?_; rintro _ w4 ⟨rfl, L4, ht4, hu4, hn4⟩; have hi4 := Sd.tapeIn (HIN.out.below h03) HD.out.apart hu4; have hk4 := HCL.out _ x2.dead hi4)
        | (go_at_call 90; have hg := hi4; refine (HDC.out _ hi4).mono ?_; rintro _ w5 ⟨rfl, hi5, hu5⟩; have hk5 := HCL.out _ _ hi5))
    by_cases hc0 : c = 0
    case neg =>
      have hc1 : (c != 0) = true := by simpa using hc0
      have hfin : SdTo w0 w S sb b mb L R (.returned (.int .i64 c)) w5 := by
        rw [← HRQ.out, if_neg hc0]
        exact SdTo.since HU.out.1 HU.out.2.1 HU.out.2.2 (SdTo.acted HD.out h03 ht4 hu4 hn4 HNK.out ⟨_, _, _, hi5⟩ hu5)
      have HFIN := Lib.hid hfin
      clear hfin hi5 hu5 ht4 hu4 hn4 h03 hk3 hk4 hk5 k0 hi4 hb3 hc0
      go_wp2
      go_ret
      exact HFIN.out
    case pos =>
    subst hc0
    obtain ⟨L6, -, hd6, hi6, hu6, hL6⟩ := SyTo.acted HD.out h03 ht4 hu4 hn4 HNK.out hi5 hu5
    simp only [stDid_zero] at hd6 hi6
    have hm6 : m2.length = x2.segs.length := hi6.len
    have hpu : ∀ (g9 cp9 : Nat) (W2 : World) (ob : Obj), W2.ownsRow 0 158 3 (.slice (some ⟨g9, 0, none⟩) (x2.segs.length + 1) cp9) (x2.segs.length + 1) (sgCells m2 ++ [.int .i64 (on : Int), .slice none 0 0, .int .i64 0]) → (w5.alloc ob).grownBy W2 ((.slice ga2 x2.segs.length gc2) : Value).ownBlock → (((.slice ga2 x2.segs.length gc2) : Value).ownBlock = some g9 ∨ g9 = (w5.alloc ob).heap.size) →
        W2.cell? ⟨sb, 3, none⟩ = some (.slice ga2 x2.segs.length gc2) ∧ W2.frozen? ⟨sb, 3, none⟩ = false ∧ ∃ S7, Sd w0 (W2.setCell ⟨sb, 3, none⟩ (.slice (some ⟨g9, 0, none⟩) (x2.segs.length + 1) cp9)) S7 sb b mb L6 { x2 with segs := x2.segs ++ [⟨(on : Int), []⟩] } t' ∧ Upd (SdF S b mb L) w (W2.setCell ⟨sb, 3, none⟩ (.slice (some ⟨g9, 0, none⟩) (x2.segs.length + 1) cp9)) ∧ (∀ k, S7 k → S k ∨ w.heap.size ≤ k) ∧ ∀ k ∈ tpBlocks L6, k ∈ tpBlocks L ∨ w.heap.size ≤ k := by
      intro g9 cp9 W2 ob h1 h2 h3
      rw [← hm6] at h1
      obtain ⟨p1, p2, p3, p4, p5⟩ := hd6.push (D1 := fun _ => False) (l' := []) hi6 h1 h2 h3 (BsIn.nil _ _) (fun c hc => hc.elim) ⟨by omega, by omega, trivial⟩
      rw [hm6] at p2 p3 p4
      have z6 := hu6.size
      have z2 := HU.out.1.size
      refine ⟨cells_of (p1.trans hi6.blk) 3 _ rfl, frozen_of (p1.trans hi6.blk), _, p2, sd_since HU.out.1 HU.out.2.1 HU.out.2.2 (hu6.trans (p4.mono (fun _ _ h => .inl h))), fun k hk => ?_, fun k hk => (hL6 k hk).elim (HU.out.2.2 k) (fun h => .inr (by omega))⟩
      rcases hk with hk | hk | hk
      · exact HU.out.2.1 k hk
      · exact hk.elim
      · by_cases hlt : g9 < w5.heap.size
        · exact HU.out.2.1 k (by rw [hk]; exact p5 hlt)
        · exact .inr (by omega)
    have c3a : ∀ o, (w5.alloc o).cell? ⟨sb, 3, none⟩ = some (.slice ga2 x2.segs.length gc2) := fun o => (hi6.below (below_alloc w5 o)).cells.2.2.2.1
    have c3 := hi6.cells.2.2.2.1
    have hrow : ∀ o, (w5.alloc o).ownsRow 0 158 3 (.slice ga2 x2.segs.length gc2) x2.segs.length (sgCells m2) := fun o => by
      have e := hi6.row.alloc o
      rw [hm6] at e
      exact e
    have hsyn : ∀ W7 S7, Sd w0 W7 S7 sb b mb L6 { x2 with segs := x2.segs ++ [⟨(on : Int), []⟩] } t' → Upd (SdF S b mb L) w W7 → (∀ k, S7 k → S k ∨ w.heap.size ≤ k) → (∀ k ∈ tpBlocks L6, k ∈ tpBlocks L ∨ w.heap.size ≤ k) → Calls Tryz.prog 36 #[.pointer (some ⟨sb, 0, none⟩)] W7 (SdTo w0 w S sb b mb L R) := by
      intro W7 S7 h1 h2 h3 h4
      have hRq := HRQ.out
      rw [if_pos rfl] at hRq
      refine (StSync_any hE h1).mono (fun e w' hs => ?_)
      rw [hRq] at hs
      exact SdTo.since h2 h3 h4 hs
    have HPU := Lib.hid hpu
    have HROW := Lib.hid hrow
    have HSY := Lib.hid hsyn
    clear hpu hrow hsyn hd6 hi6 hu6 hL6 hm6 hi5 hu5 ht4 hu4 hn4 h03 hk3 hk4 hk5 k0 hi4 hb3 HF HTS HCL HDC HK HIN HNK HD HU HRQ
    obtain ⟨i1, hi, hy0, hy1, hy2⟩ := info_parts info_seg
    go_upto_region 13 with (first | (at_builtin; refine wpList_append_lies _ rfl _ _ 159 rfl 0 158 i1 _ 3 40 und_segs hi hy0 hy1 hy2 rfl (by decide) (.slice ga2 x2.segs.length gc2) x2.segs.length (sgCells m2) rfl (HROW.out _) _ 1 1 [.int .i64 (on : Int), .slice none 0 0, .int .i64 0] rfl rfl (World.news_of_block (cs := #[.int .i64 (on : Int), .slice none 0 0, .int .i64 0]) (t := 158) (fr := (0, 0)) (heap_alloc_new w5 _)) (by simp [Value.oneCell']) (by decide) (by unfold maxLen; omega) (by omega) (Nat.zero_le _) _ rfl ?_; intro g9 cap9 w7 hown9 hgrow9 hat9 hlt9; obtain ⟨c9, z9, hq9⟩ := HPU.out _ _ _ _ hown9 hgrow9 hat9; have HQ := Lib.hid hq9; clear hq9 hown9 hgrow9 hat9 hlt9))
    obtain ⟨S7, q1, q2, q3, q4⟩ := HQ.out
    have hcall := HSY.out _ S7 q1 q2 q3 q4
    have HCALL := Lib.hid hcall
    clear hcall q1 q2 q3 q4 HQ HSY HPU HROW
    go_wp2_with fail
    refine HCALL.out.mono ?_
    rintro e w9 hs9
    obtain ⟨v9, rfl⟩ : ∃ v, e = .returned v := by obtain ⟨_, _, e1, -⟩ := hs9; exact ⟨_, e1⟩
    have HS9 := Lib.hid hs9
    clear hs9
    go_wp2_with fail
    go_ret
    exact HS9.out
end Go.Proofs.YtcpaaleogmiamaaGreatDoor
