/- The walk of strand.find. -/
import Derived.Test.YtcpaaleogmiamaaGreatDoorMp27
namespace Go.Proofs.YtcpaaleogmiamaaGreatDoor
open Go.RowKit

def findT (t : Tp) (x : St) : Tp × St × Int := ((findF x.pre (namesV t) t [] false).1, { x with segs := (findF x.pre (namesV t) t [] false).2.1 }, (findF x.pre (namesV t) t [] false).2.2)

/-- What stands in a round of find. -/
def FiR (w0 w2 : World) (S : Nat → Prop) (sb b mb : Nat) (L : TpL) (x : St) (ks : List (List UInt8)) (R : Tp × List Sg × Int) (k : Nat) (ov : Bool) (wr : World) : Prop :=
  ∃ (L' : TpL) (S' : Nat → Prop) (s' : List Sg) (t' : Tp) (gv : Value) (m : List (Value × Sg)) (D : Nat → Prop), Sd w0 wr S' sb b mb L' { x with segs := s' } t' ∧ StIn wr S' sb b { x with segs := s' } gv m D ∧ Upd (SdF S b mb L) w2 wr ∧ (∀ k, S' k → S k ∨ w2.heap.size ≤ k) ∧
    (∀ k ∈ tpBlocks L', k ∈ tpBlocks L ∨ w2.heap.size ≤ k) ∧ findF x.pre (ks.drop k) t' s' ov = R ∧ s'.length ≤ k

/-- A segment has come. -/
def FiP (w0 wv : World) (S : Nat → Prop) (sb b mb : Nat) (L : TpL) (x : St) (t : Tp) (gb : Nat) (a0 a1 a2 : Value) (wc : World) : Prop :=
  ∃ (S' : Nat → Prop) (gv : Value) (m : List (Value × Sg)) (D : Nat → Prop), Sd w0 wc S' sb b mb L x t ∧ StIn wc S' sb b x gv m D ∧ Upd S wv wc ∧ (∀ k, S' k → S k ∨ wv.heap.size ≤ k) ∧ wc.heap[gb]? = some (.cells #[a0, a1, a2] 158 (0, 0))

set_option maxRecDepth 100000 in
set_option maxHeartbeats 4000000 in
theorem Stfind_any {w0 w : World} {S : Nat → Prop} {sb b mb : Nat} {L : TpL} {x : St} {t : Tp} (hE : Env w0) (h : Sd w0 w S sb b mb L x t) (hx : x.segs = []) :
    Calls Tryz.prog 97 #[.pointer (some ⟨sb, 0, none⟩)] w (SdTo w0 w S sb b mb L (findT t x)) := by
  obtain ⟨ks, hks⟩ : ∃ ks, namesV t = ks := ⟨_, rfl⟩
  obtain ⟨R, hR⟩ : ∃ R, findF x.pre ks t [] false = R := ⟨_, rfl⟩
  have hfT : findT t x = (R.1, { x with segs := R.2.1 }, R.2.2) := by rw [findT, hks, hR]
  rw [hfT]
  have hnm := TNames_any h.tp h.names
  rw [hks] at hnm
  have hkl : ks.length ≤ 256 := by
    rw [← hks]
    have := h.tp.ok.few
    simpa [namesV] using this
  obtain ⟨gv0, m0, D0, hi0⟩ := h.st
  have c0 := hi0.cells.1
  have hx0 : { x with segs := [] } = x := by rw [← hx]
  have hst : ∀ w2, Below w.heap.size w w2 → FiR w0 w2 S sb b mb L x ks R 0 false w2 := fun w2 hb => ⟨L, S, [], t, gv0, m0, D0, by rw [hx0]; exact h.below hb, by rw [hx0]; exact hi0.below hb, Upd.refl _ _, fun _ h => .inl h, fun _ h => .inl h, by simpa using hR, Nat.le_refl _⟩
  have hltF := h.lt
  have HNM := Lib.hid hnm
  have HST := Lib.hid hst
  have HLT := Lib.hid hltF
  clear hnm hst hltF hks hR hfT h hi0 hx hx0
  go_enter Tryz.func97, Tryz.ntmps97
  go_wp2_with fail
  refine HNM.out.mono ?_
  rintro _ w2 ⟨nv, rfl, hrow, hb2⟩
  obtain ⟨na, ncap, rfl, hnc⟩ := (Sl.of_owns hrow).rd.shape
  have hread : ∀ W, Upd (SdF S b mb L) w2 W → ∀ k (hk : k < ks.length), ∃ nb off, na = some ⟨nb, off, none⟩ ∧ W.cell? ⟨nb, off + k, none⟩ = some (.string (bs ks[k])) := by
    intro W hu k hk
    have h1 := owns_upd hrow hu (fun g hg hF => by have h1 := (owns_lt hrow g hg).1; have h2 := HLT.out g hF; omega)
    obtain ⟨nb, off, cap, e, _, _, hb, hc⟩ := Rd.at (Sl.of_owns h1).rd (by omega)
    simp only [Value.slice.injEq, true_and] at e
    exact ⟨nb, off, e.1, hc k _ (by simp [hk])⟩
  have HRD := Lib.hid hread
  have hr0 := HST.out w2 hb2
  have HR0 := Lib.hid hr0
  have HB2 := Lib.hid hb2
  have L0 : (ks.length : Int) ≤ 256 := by omega
  clear hrow hb2 hread hr0 HST HNM c0
  go_wp2
  go_loopg [3, 19] ks.length (fun gk v3 v19 wr => ∃ (k : Nat) (ov : Bool), k ≤ ks.length ∧ gk = ks.length - k ∧ v19 = .int .i64 k ∧ v3 = .bool ov ∧ FiR w0 w2 S sb b mb L x ks R k ov wr)
  case atStart => exact ⟨0, false, Nat.zero_le _, rfl, rfl, rfl, HR0.out⟩
  case round =>
    obtain ⟨k, ov, hk, rfl, rfl, rfl, L5, S5, s5, t5, gv, m, D, hd, hi, hu, hS5, hL5, hRq, hsl⟩ := hrel
    by_cases hkt : k < ks.length
    · obtain ⟨nb, noff, rfl, x0⟩ := HRD.out _ hu k hkt
      have j1 : (k : Int) < (ks.length : Int) := by omega
      have j2 : (0 : Int) ≤ (k : Int) := by omega
      obtain ⟨nm, hnm⟩ : ∃ nm, ks[k] = nm := ⟨_, rfl⟩
      rw [hnm] at x0
      rw [List.drop_eq_getElem_cons hkt, hnm] at hRq
      have hbs := fun W (hW : Below wr.heap.size wr W) => Stbase_any ((hd.below hW).env hE) (hd.below hW).st hd.ok nm
      simp only at hbs
      obtain ⟨o, ho⟩ : ∃ o, baseN x.pre nm = o := ⟨_, rfl⟩
      rw [ho] at hbs
      rw [findF, ho] at hRq
      have hbn0 : ∀ n, o = some n → n ≤ 1099511627776 := fun n hn => (baseN_some (by rw [ho, hn])).1
      have HBS := Lib.hid hbs
      have HRQ := Lib.hid hRq
      have H5 := Lib.hid hd
      have HI5 := Lib.hid hi
      have HU5 := Lib.hid (And.intro hu (And.intro hS5 hL5))
      have hsl2 : s5.length ≤ 256 := by omega
      clear hbs hRq hd hi hu hS5 hL5 ho hnm
      go_wp2_with fail
      refine (HBS.out _ (Below.refl _ _)).mono ?_
      rintro e w3 hb3
      cases o with
      | none =>
        obtain ⟨⟨kk, rfl⟩, hb3⟩ := hb3
        have hrel : FiR w0 w2 S sb b mb L x ks R (k + 1) ov w3 := ⟨L5, S5, s5, t5, gv, m, D, H5.out.below hb3, HI5.out.below hb3, HU5.out.1.trans (Upd.of_below hb3), HU5.out.2.1, HU5.out.2.2, HRQ.out, by omega⟩
        have HREL := Lib.hid hrel
        clear hrel hb3 HRQ H5 HI5 HU5 HBS
        go_wp2
        go_roundg (ks.length - (k + 1))
        case measure => omega
        case rel => exact ⟨k + 1, ov, by omega, rfl, by go_num, rfl, HREL.out⟩
      | some n =>
        obtain ⟨rfl, hb3⟩ := hb3
        have hRq := HRQ.out
        simp only at hRq
        obtain ⟨ov2, hov2⟩ : ∃ ov2, (ov || (decide (0 < s5.length) && decide ((n : Int) ≠ endS s5))) = ov2 := ⟨_, rfl⟩
        rw [hov2] at hRq
        have hen := fun W (hW : Below wr.heap.size wr W) => StEnd_any (H5.out.below hW).st H5.out.ok
        simp only at hen
        obtain ⟨ev, hev⟩ : ∃ ev, endS s5 = ev := ⟨_, rfl⟩
        rw [hev] at hen hov2
        obtain ⟨ga, gc, hgv, hml, -⟩ := HI5.out.seg
        simp only at hgv
        subst hgv
        have hK : ∀ W, Below wr.heap.size wr W → W.cell? ⟨sb, 0, none⟩ = some (.pointer (some ⟨b, 0, none⟩)) ∧ W.cell? ⟨sb, 3, none⟩ = some (.slice ga s5.length gc) := fun W hW => ⟨(HI5.out.below hW).cells.1, (HI5.out.below hW).cells.2.2.2.1⟩
        have hbn : n ≤ 1099511627776 := hbn0 n rfl
        have HK := Lib.hid hK
        have HEN := Lib.hid hen
        have HRR := Lib.hid hRq
        have HOV := Lib.hid hov2
        have HB3 := Lib.hid hb3
        obtain ⟨k0, k3⟩ := HK.out _ hb3
        clear hRq hov2 hen hK hev HRQ HBS hb3 x0
        go_upto_region 7 with fail
        go_cut [3] from 31 to 45 (fun v3 wc => v3 = .bool ov2 ∧ Below wr.heap.size wr wc)
        case first =>
          cases ov with
          | true =>
            go_wp2
            go_meet
            exact ⟨by rw [← HOV.out]; rfl, HB3.out⟩
          | false =>
            by_cases hs0 : s5.length = 0
            · have g0 : ¬ (0 : Int) < (s5.length : Int) := by omega
              have hv : ov2 = false := by rw [← HOV.out, hs0]; rfl
              subst hv
              go_wp2
              go_meet
              exact ⟨rfl, HB3.out⟩
            · have g0 : (0 : Int) < (s5.length : Int) := by omega
              go_wp2_with (go_at_call 32; refine (HEN.out _ HB3.out).mono ?_; rintro _ w4 ⟨rfl, hb4⟩)
              go_meet
              refine ⟨?_, below_trans HB3.out hb4⟩
              rw [← HOV.out, decide_eq_true (by omega : 0 < s5.length)]
              simp only [Bool.false_or, Bool.true_and]
              congr 1
              by_cases h : (n : Int) = ev <;> simp [h]
        case rest =>
          obtain ⟨rfl, hbc⟩ := hcut
          obtain ⟨wd, hwd⟩ : ∃ wd, wd = wc := ⟨_, rfl⟩
          subst hwd
          have HBC := Lib.hid hbc
          obtain ⟨k0, k3⟩ := HK.out _ hbc
          clear hbc HOV HEN HB3
          cases ov2 with
          | true =>
            have hRq := HRR.out
            rw [if_pos rfl] at hRq
            have hts := TDrop_any (H5.out.below HBC.out).tp nm
            obtain ⟨c, hc⟩ : ∃ c, (dropT t5 nm).2 = c := ⟨_, rfl⟩
            have hnk := dropT_names H5.out.names nm
            obtain ⟨t', ht'⟩ : ∃ t', (dropT t5 nm).1 = t' := ⟨_, rfl⟩
            rw [hc, ht'] at hts hRq
            rw [ht'] at hnk
            have HTS := Lib.hid hts
            have HRQ := Lib.hid hRq
            have HNK := Lib.hid hnk
            clear hts hRq hnk hc ht' HRR
            go_wp2_with fail
            refine HTS.out.mono ?_
            rintro _ w4 ⟨rfl, L4, ht4, hu4, hn4⟩
            have hd4 := (H5.out.below HBC.out).tape ht4 hu4 hn4 HNK.out
            have hi4 := Sd.tapeIn (HI5.out.below HBC.out) (fun k hk => H5.out.apart k hk) hu4
            have hu5 : Upd (SdF S b mb L) w2 w4 := sd_since HU5.out.1 HU5.out.2.1 HU5.out.2.2 ((Upd.of_below HBC.out).trans (hu4.mono (fun _ _ h => .inr h)))
            have hn5 : ∀ k ∈ tpBlocks L4, k ∈ tpBlocks L ∨ w2.heap.size ≤ k := fun k hk => (hn4 k hk).elim (HU5.out.2.2 k) (fun h => .inr (Nat.le_trans HU5.out.1.size (Nat.le_trans HBC.out.size h)))
            by_cases hc0 : c = 0
            · subst hc0
              have hrel : FiR w0 w2 S sb b mb L x ks R (k + 1) true w4 := ⟨L4, S5, s5, t', _, m, D, hd4, hi4, hu5, HU5.out.2.1, hn5, by rw [← HRQ.out, if_pos rfl], by omega⟩
              have HREL := Lib.hid hrel
              clear hrel hd4 hi4 hu5 hn5 ht4 hu4 hn4 HRQ HNK HTS H5 HI5 HU5 HBC k0 k3
              go_wp2
              go_roundg (ks.length - (k + 1))
              case measure => omega
              case rel => exact ⟨k + 1, true, by omega, rfl, by go_num, rfl, HREL.out⟩
            · have hc1 : (c != 0) = true := by simpa using hc0
              have hfin : SdTo w0 w S sb b mb L (R.1, { x with segs := R.2.1 }, R.2.2) (.returned (.int .i64 c)) w4 := by
                rw [← HRQ.out, if_neg hc0]
                exact ⟨S5, L4, rfl, hd4, (Upd.of_below HB2.out).trans hu5, fun k hk => (HU5.out.2.1 k hk).imp id (fun h => Nat.le_trans HB2.out.size h), fun k hk => (hn5 k hk).imp id (fun h => Nat.le_trans HB2.out.size h)⟩
              have HFIN := Lib.hid hfin
              clear hfin hd4 hi4 hu5 hn5 ht4 hu4 hn4 HRQ HNK HTS H5 HI5 HU5 HBC k0 k3 hc0
              go_wp2
              go_ret
              exact HFIN.out
          | false =>
            have hRq := HRR.out
            rw [if_neg (by decide)] at hRq
            have hrd := fun W (hW : Below wr.heap.size wr W) => TRead_any (H5.out.below hW).tp nm
            rw [readV_readT H5.out.tp nm] at hrd
            have hdl := readT_len H5.out.tp.ok nm
            obtain ⟨rd, hrde⟩ : ∃ rd, readT t5 nm = rd := ⟨_, rfl⟩
            rw [hrde] at hrd hdl hRq
            obtain ⟨d, c⟩ := rd
            simp only at hrd hdl hRq
            have HRD2 := Lib.hid hrd
            have HRQ := Lib.hid hRq
            clear hrd hRq hrde HRR
            go_wp2_with fail
            refine (HRD2.out _ HBC.out).mono ?_
            rintro _ wv ⟨rfl, hwv⟩
            obtain rfl : wv = wd := hwv
            by_cases hc0 : c = 0
            · subst hc0
              have hRq := HRQ.out
              rw [if_neg (by simp)] at hRq
              have hlo := Stload_any (n := (n : Int)) ((H5.out.below HBC.out).env hE) d (by omega) ⟨by omega, by omega⟩
              have hlk := (loadS_ok d (n : Int)).1
              have hle := loadS_le d (n : Int)
              obtain ⟨l, hl⟩ : ∃ l, (loadS d (n : Int)).1 = l := ⟨_, rfl⟩
              rw [hl] at hlk hRq hle
              obtain ⟨sz, hsz⟩ : ∃ sz, (sgB l).length = sz := ⟨_, rfl⟩
              rw [hsz] at hRq hle
              have hlo2 : Calls Tryz.prog 152 #[.string (bs d), .int .i64 (n : Int)] wv fun e w' => ∃ lv, e = .returned (.agg #[.int .i64 (n : Int), lv, .int .i64 (sz : Int)]) ∧ BsIn w' (fun b => wv.heap.size ≤ b) lv l ∧ Below wv.heap.size wv w' := hlo.mono (fun e w' h => by
                unfold LoadTo at h
                rw [hl, hsz] at h
                exact h)
              have HLO := Lib.hid hlo2
              clear hlo2
              have HRQ2 := Lib.hid hRq
              have HLK := Lib.hid (And.intro hlk hsz)
              clear hlo hlk hRq hl hsz HRQ
              go_wp2_with fail
              refine HLO.out.mono ?_
              rintro _ w5 ⟨lv, rfl, hbl, hb5⟩
              obtain ⟨la, lc, rfl, -⟩ := BsRd.cells hbl.here
              have HBL := Lib.hid (And.intro hbl hb5)
              clear hbl hb5 HLO
              go_upto_region 16 with fail
              obtain ⟨gb, hgb⟩ : ∃ gb, w5.heap.size = gb := ⟨_, rfl⟩
              obtain ⟨w6, hw6⟩ : ∃ w6, w6 = w5.alloc (.cells #[.int .i64 (n : Int), .slice la l.length lc, .int .i64 (sz : Int)] 158) := ⟨_, rfl⟩
              have hgc : w6.heap[gb]? = some (.cells #[.int .i64 (n : Int), .slice la l.length lc, .int .i64 (sz : Int)] 158 (0, 0)) := by rw [hw6, ← hgb]; exact heap_alloc_new _ _
              have hb6 : Below wv.heap.size wv w6 := by rw [hw6]; exact HBL.out.2.alloc HBL.out.2.size _
              have hbl6 : BsIn w6 (fun b => wv.heap.size ≤ b ∧ b < w5.heap.size) (.slice la l.length lc) l := by rw [hw6]; exact (HBL.out.1.grow (fun k hk hlt => ⟨hk, hlt⟩)).below (below_alloc _ _)
              have hz6 : w6.heap.size = gb + 1 := by rw [hw6, ← hgb]; simp
              rw [← hw6, hgb]
              rw [hgb] at hbl6
              have hgw : wv.heap.size ≤ gb := by rw [← hgb]; exact HBL.out.2.size
              clear hw6 hgb HBL
              have hd6 : Sd w0 w6.drew S5 sb b mb L5 { x with segs := s5 } t5 := H5.out.below ((HBC.out.trans (hb6.mono HBC.out.size)).drew)
              have hi6 : StIn w6.drew S5 sb b { x with segs := s5 } (.slice ga s5.length gc) m D := HI5.out.below ((HBC.out.trans (hb6.mono HBC.out.size)).drew)
              have hbl7 : BsIn w6.drew (fun b => wv.heap.size ≤ b ∧ b < gb) (.slice la l.length lc) l := hbl6.below (Below.refl _ _).drew
              have hzv := HBC.out.size
              have hm5 : m.length = s5.length := hi6.len
              have hd1 : ∀ c, (wv.heap.size ≤ c ∧ c < gb) → c < w6.drew.heap.size ∧ ¬ S5 c ∧ ¬ TpF b mb L5 c ∧ w0.heap.size ≤ c := by
                rintro c ⟨hc1, hc2⟩
                have hzd : w6.drew.heap.size = w6.heap.size := rfl
                refine ⟨by omega, fun hs => ?_, fun hs => ?_, ?_⟩
                · have := H5.out.st.lt c hs; omega
                · have := H5.out.tp.fLt c hs; omega
                · have := H5.out.base.size; omega
              have hpu : ∀ (g9 cp9 : Nat) (W2 : World) (ob : Obj), W2.ownsRow 0 158 3 (.slice (some ⟨g9, 0, none⟩) (s5.length + 1) cp9) (s5.length + 1) (sgCells m ++ [.int .i64 (n : Int), .slice la l.length lc, .int .i64 (sz : Int)]) → (w6.drew.alloc ob).grownBy W2 ((.slice ga s5.length gc) : Value).ownBlock → (((.slice ga s5.length gc) : Value).ownBlock = some g9 ∨ g9 = (w6.drew.alloc ob).heap.size) →
                  W2.cell? ⟨sb, 3, none⟩ = some (.slice ga s5.length gc) ∧ W2.frozen? ⟨sb, 3, none⟩ = false ∧ FiP w0 wv S5 sb b mb L5 { x with segs := s5 ++ [⟨(n : Int), l⟩] } t5 gb (.int .i64 (n : Int)) (.slice la l.length lc) (.int .i64 (sz : Int)) (W2.setCell ⟨sb, 3, none⟩ (.slice (some ⟨g9, 0, none⟩) (s5.length + 1) cp9)) := by
                intro g9 cp9 W2 ob h1 h2 h3
                rw [← hm5, ← HLK.out.2] at h1
                obtain ⟨p1, p2, p3, p4, p5⟩ := hd6.push hi6 h1 h2 h3 hbl7 hd1 ⟨by omega, by omega, HLK.out.1⟩
                rw [hm5] at p2 p3 p4
                refine ⟨cells_of (p1.trans hi6.blk) 3 _ rfl, frozen_of (p1.trans hi6.blk), _, _, _, _, p2, p3, (Upd.of_below hb6.drew).trans p4, fun k hk => ?_, ?_⟩
                · rcases hk with hk | hk | hk
                  · exact .inl hk
                  · exact .inr hk.1
                  · by_cases hlt : g9 < w6.heap.size
                    · exact .inl (by rw [hk]; exact p5 hlt)
                    · exact .inr (by omega)
                · refine (p4.block gb (by show gb < w6.heap.size; omega) (fun hs => ?_)).trans hgc
                  have := H5.out.st.lt gb hs; omega
              have c3 := hi6.cells.2.2.2.1
              have c3a : ∀ o, (w6.alloc o).cell? ⟨sb, 3, none⟩ = some (.slice ga s5.length gc) := fun o => ((HI5.out.below (HBC.out.trans (hb6.mono HBC.out.size))).below (below_alloc w6 o)).cells.2.2.2.1
              have c3b : w6.cell? ⟨sb, 3, none⟩ = some (.slice ga s5.length gc) := c3
              have n0 : w6.cell? ⟨gb, 0, none⟩ = some (.int .i64 (n : Int)) := cells_of hgc 0 _ rfl
              have n1 : w6.cell? ⟨gb, 1, none⟩ = some (.slice la l.length lc) := cells_of hgc 1 _ rfl
              have n2 : w6.cell? ⟨gb, 2, none⟩ = some (.int .i64 (sz : Int)) := cells_of hgc 2 _ rfl
              have hrow : ∀ o, (w6.drew.alloc o).ownsRow 0 158 3 (.slice ga s5.length gc) s5.length (sgCells m) := fun o => by
                have e := hi6.row.alloc o
                rw [hm5] at e
                exact e
              have HPU := Lib.hid hpu
              have HROW := Lib.hid hrow
              have HZV := Lib.hid (And.intro hb6 (And.intro hz6 hgw))
              clear hpu hrow hgc hb6 hbl6 hz6 hgw hd6 hi6 hbl7 hd1 hm5 hzv k0 k3
              obtain ⟨i1, hi, hy0, hy1, hy2⟩ := info_parts info_seg
              go_cut [] from 71 to 80 (fun wc => FiP w0 wv S5 sb b mb L5 { x with segs := s5 ++ [⟨(n : Int), l⟩] } t5 gb (.int .i64 (n : Int)) (.slice la l.length lc) (.int .i64 (sz : Int)) wc)
              case first =>
                go_region_law
                  (refine step_append_lies _ (by rfl) _ _ _ (by rfl) 0 158 i1 _ 3 40 und_segs hi hy0 hy1 hy2 rfl (by omega) (.slice ga s5.length gc) s5.length (sgCells m) (by rfl) (HROW.out _) ⟨w6.heap.size, 0, none⟩ 1 1 [.int .i64 (n : Int), .slice la l.length lc, .int .i64 (sz : Int)] (by rfl) (by rfl) (World.news_of_block (cs := #[.int .i64 (n : Int), .slice la l.length lc, .int .i64 (sz : Int)]) (t := 158) (fr := (0, 0)) (heap_alloc_new w6.drew _)) (by simp [Value.oneCell']) (by omega) ?_ ?_ ?_ _ rfl ?_; (unfold maxLen; omega); omega; omega; rintro g9 gcap9 w17 hown9 hgrow9 hat9 hlt9; obtain ⟨e3, ef, hfin⟩ := HPU.out _ _ _ _ hown9 hgrow9 hat9; have HFIN := Lib.hid hfin; clear hfin hown9 hgrow9 hat9 hlt9)
                all_goals
                  go_wp2_with fail
                  go_meet
                  exact HFIN.out
              case rest =>
                obtain ⟨S6, gv6, m6, D6, hd7, hi7, hu7, hS7, hgc7⟩ := hcut
                obtain ⟨w7, hw7⟩ : ∃ w7, w7 = wc := ⟨_, rfl⟩
                subst hw7
                clear hi hy0 hy1 hy2 HPU HROW c3 c3a c3b n0 n1 n2
                have n2 : w7.cell? ⟨gb, 2, none⟩ = some (.int .i64 (sz : Int)) := cells_of hgc7 2 _ rfl
                have hdz : (bs d).size = d.length := bs_size d
                have hu8 : Upd (SdF S b mb L) w2 w7 := sd_since HU5.out.1 HU5.out.2.1 HU5.out.2.2 ((Upd.of_below HBC.out).trans (hu7.mono (fun _ _ h => .inl h)))
                have hS8 : ∀ k, S6 k → S k ∨ w2.heap.size ≤ k := fun k hk => (hS7 k hk).elim (HU5.out.2.1 k) (fun h => .inr (Nat.le_trans HU5.out.1.size (Nat.le_trans HBC.out.size h)))
                by_cases hsd : sz = d.length
                · have hsd2 : ((sz : Int) == (d.length : Int)) = true := by simp [hsd]
                  have hsd3 : ((sz : Int) == ((bs d).size : Int)) = true := by rw [hdz]; exact hsd2
                  have hrel : FiR w0 w2 S sb b mb L x ks R (k + 1) false w7 := ⟨L5, S6, s5 ++ [⟨(n : Int), l⟩], t5, gv6, m6, D6, hd7, hi7, hu8, hS8, HU5.out.2.2, by rw [← HRQ2.out, if_pos hsd], by simp; omega⟩
                  have HREL := Lib.hid hrel
                  clear hrel hd7 hi7 hu7 hS7 hgc7 hu8 hS8 HRQ2 H5 HI5 HU5 HBC HLK HZV HRD2 HK hsd hdz
                  go_wp2
                  go_roundg (ks.length - (k + 1))
                  case measure => omega
                  case rel => exact ⟨k + 1, false, by omega, rfl, by go_num, rfl, HREL.out⟩
                · have hsd2 : ((sz : Int) == (d.length : Int)) = false := by simp; omega
                  have hsd3 : ((sz : Int) == ((bs d).size : Int)) = false := by rw [hdz]; exact hsd2
                  have hts := TCut_any (hd7.tp.below (Below.refl _ _).drew) nm (sz : Int)
                  obtain ⟨c, hc⟩ : ∃ c, (cutT t5 nm (sz : Int)).2 = c := ⟨_, rfl⟩
                  have hnk := cutT_names hd7.names nm (sz : Int)
                  obtain ⟨t', ht'⟩ : ∃ t', (cutT t5 nm (sz : Int)).1 = t' := ⟨_, rfl⟩
                  have hRq := HRQ2.out
                  rw [if_neg hsd] at hRq
                  rw [hc, ht'] at hts hRq
                  rw [ht'] at hnk
                  have hgt : ¬ TpF b mb L5 gb ∧ gb < w7.heap.size := by
                    refine ⟨fun hf => ?_, (Array.getElem?_eq_some_iff.1 hgc7).1⟩
                    have := H5.out.tp.fLt gb hf
                    have := HZV.out.2.2
                    have := HBC.out.size
                    omega
                  have hku : ∀ W, Upd (TpF b mb L5) w7 W → W.cell? ⟨sb, 0, none⟩ = some (.pointer (some ⟨b, 0, none⟩)) ∧ W.cell? ⟨gb, 2, none⟩ = some (.int .i64 (sz : Int)) := fun W hu => ⟨(Sd.tapeIn hi7 hd7.apart hu).cells.1, cells_of ((hu.block gb hgt.2 hgt.1).trans hgc7) 2 _ rfl⟩
                  obtain ⟨k0, k2⟩ := hku w7 (Upd.refl _ _)
                  have HKU := Lib.hid hku
                  have HTS := Lib.hid hts
                  have HRQ := Lib.hid hRq
                  have HNK := Lib.hid hnk
                  have H7 := Lib.hid (And.intro hd7 (And.intro hi7 (And.intro hu8 hS8)))
                  clear hts hRq hnk hc ht' HRQ2 hku hgt hd7 hi7 hu7 hS7 hgc7 hu8 hS8 hsd hdz n2
                  go_upto_region 19 with fail
                  go_region_held3 (fun W' => W'.cell? ⟨sb, 0, none⟩ = some (.pointer (some ⟨b, 0, none⟩)) ∧ W'.cell? ⟨gb, 2, none⟩ = some (.int .i64 (sz : Int)))
                    (first | with_reducible exact ⟨k0, k2⟩ | with_reducible exact HKU.out _ (Upd.of_below (Below.refl _ _).drew) | (have hg := hk4; with_reducible exact hk4))
                    (first | (go_at_call 66; refine HTS.out.mono ?_; rintro _ w8 ⟨rfl, L4, ht4, hu4, hn4⟩; have hu48 : Upd (TpF b mb L5) w7 w8 := (Upd.of_below (Below.refl _ w7).drew).trans hu4; have hn48 : ∀ k ∈ tpBlocks L4, k ∈ tpBlocks L5 ∨ w7.heap.size ≤ k := hn4; have hk4 := HKU.out _ hu48))
                  have hd8 := H7.out.1.tape ht4 hu48 hn48 HNK.out
                  have hi8 := Sd.tapeIn H7.out.2.1 H7.out.1.apart hu48
                  have hu9 : Upd (SdF S b mb L) w2 w8 := sd_since H7.out.2.2.1 H7.out.2.2.2 HU5.out.2.2 (hu48.mono (fun _ _ h => .inr h))
                  have hn9 : ∀ k ∈ tpBlocks L4, k ∈ tpBlocks L ∨ w2.heap.size ≤ k := fun k hk => (hn48 k hk).elim (HU5.out.2.2 k) (fun h => .inr (Nat.le_trans H7.out.2.2.1.size h))
                  by_cases hc0 : c = 0
                  · subst hc0
                    have hrel : FiR w0 w2 S sb b mb L x ks R (k + 1) true w8 := ⟨L4, S6, s5 ++ [⟨(n : Int), l⟩], t', gv6, m6, D6, hd8, hi8, hu9, H7.out.2.2.2, hn9, by rw [← HRQ.out, if_pos rfl], by simp; omega⟩
                    have HREL := Lib.hid hrel
                    clear hrel hd8 hi8 hu9 hn9 ht4 hu4 hu48 hn4 hn48 hk4 HRQ HNK HTS H5 H7 HI5 HU5 HBC HKU HLK HZV HRD2 HK k0 k2
                    go_wp2
                    go_roundg (ks.length - (k + 1))
                    case measure => omega
                    case rel => exact ⟨k + 1, true, by omega, rfl, by go_num, rfl, HREL.out⟩
                  · have hc1 : (c != 0) = true := by simpa using hc0
                    have hfin : SdTo w0 w S sb b mb L (R.1, { x with segs := R.2.1 }, R.2.2) (.returned (.int .i64 c)) w8 := by
                      rw [← HRQ.out, if_neg hc0]
                      exact ⟨S6, L4, rfl, hd8, (Upd.of_below HB2.out).trans hu9, fun k hk => (H7.out.2.2.2 k hk).imp id (fun h => Nat.le_trans HB2.out.size h), fun k hk => (hn9 k hk).imp id (fun h => Nat.le_trans HB2.out.size h)⟩
                    have HFIN := Lib.hid hfin
                    clear hfin hd8 hi8 hu9 hn9 ht4 hu4 hu48 hn4 hn48 hk4 HRQ HNK HTS H5 H7 HI5 HU5 HBC HKU HLK HZV HRD2 HK k0 k2 hc0
                    go_wp2
                    go_ret
                    exact HFIN.out
            · have hc1 : (c != 0) = true := by simpa using hc0
              have hfin : SdTo w0 w S sb b mb L (R.1, { x with segs := R.2.1 }, R.2.2) (.returned (.int .i64 c)) wv := by
                rw [← HRQ.out, if_pos hc0]
                exact ⟨S5, L5, rfl, H5.out.below HBC.out, ((Upd.of_below HB2.out).trans (sd_since HU5.out.1 HU5.out.2.1 HU5.out.2.2 (Upd.of_below HBC.out))), fun k hk => (HU5.out.2.1 k hk).imp id (fun h => Nat.le_trans HB2.out.size h), fun k hk => (HU5.out.2.2 k hk).imp id (fun h => Nat.le_trans HB2.out.size h)⟩
              have HFIN := Lib.hid hfin
              clear hfin HRQ H5 HI5 HU5 HBC k0 k3 hc0
              go_wp2
              go_ret
              exact HFIN.out
    · obtain rfl : k = ks.length := by omega
      rw [List.drop_length, findF] at hRq
      have hfin : SdTo w0 w S sb b mb L (R.1, { x with segs := R.2.1 }, R.2.2) (.returned (.int .i64 0)) wr := by
        rw [← hRq]
        exact ⟨S5, L5, rfl, hd, (Upd.of_below HB2.out).trans hu, fun k hk => (hS5 k hk).imp id (fun h => Nat.le_trans HB2.out.size h), fun k hk => (hL5 k hk).imp id (fun h => Nat.le_trans HB2.out.size h)⟩
      have HFIN := Lib.hid hfin
      clear hfin hd hi hu hS5 hL5 hRq hsl
      go_wp2
      go_ret
      exact HFIN.out
end Go.Proofs.YtcpaaleogmiamaaGreatDoor
