/- The walk of strand.Bases. -/
/- The walk of heliographlaw07.awake. -/
/- The reference's Recs: whether two rows of records are one. -/
/- strand.Read at no strand. -/
import Derived.Test.YtcpaaleogmiamaaGreatDoorMp20
import Derived.Deep.AppendLies
import Derived.Test.YtcpaaleogmiamaaGreatDoorMp33
import Derived.Test.YtcpaaleogmiamaaGreatDoorMp16
import Derived.Test.YtcpaaleogmiamaaGreatDoorMp32
import Derived.Test.YtcpaaleogmiamaaGreatDoorMp31
namespace Go.Proofs.YtcpaaleogmiamaaGreatDoor
open Go.RowKit

theorem und_IntsB : Tryz.prog.underlying 22 = some (.slice 3) := by kernel_rfl
theorem info_IntB : (Tryz.prog.info? 3).map (fun i => (i.zero, i.size, i.bytes)) = some (some (.int .i64 0), 1, 8) := by kernel_rfl
def BasTo (w : World) (l : List Int) (e : Ending) (w' : World) : Prop := ∃ v, e = .returned v ∧ w'.ownsRow w.heap.size 3 1 v l.length (intCells l) ∧ Below w.heap.size w w'

set_option maxRecDepth 100000 in
set_option maxHeartbeats 2000000 in
theorem StBases_any {w : World} {S : Nat → Prop} {sb tb : Nat} {x : St} {gv : Value} {m : List (Value × Sg)} {D : Nat → Prop} (h : StIn w S sb tb x gv m D) (hs : x.segs.length ≤ 1000000) :
    Calls Tryz.prog 37 #[.pointer (some ⟨sb, 0, none⟩)] w (BasTo w (x.segs.map (·.base))) := by
  obtain ⟨ga, gc, rfl, hml, -⟩ := h.seg
  have c3 := h.cells.2.2.2.1
  have hsg := fun W (hW : Below w.heap.size w W) => (h.below hW).seg
  obtain ⟨l, hl⟩ : ∃ l, x.segs.map (·.base) = l := ⟨_, rfl⟩
  have hll : x.segs.length = l.length := by rw [← hl, List.length_map]
  have hel : ∀ W, Below w.heap.size w W → ∀ k (hk : k < l.length), ∃ b la lc sy, ga = some ⟨b, 0, none⟩ ∧ b < W.heap.size ∧ W.cell? ⟨b, k * 3, none⟩ = some (.int .i64 l[k]) ∧ W.cell? ⟨b, k * 3 + 1, none⟩ = some (.slice la sy lc) ∧ ∃ z : Nat, W.cell? ⟨b, k * 3 + 2, none⟩ = some (.int .i64 (z : Int)) := fun W hW k hk => by
    obtain ⟨a, c, e, -, hq⟩ := hsg W hW
    simp only [Value.slice.injEq] at e
    obtain ⟨b, la, lc, e2, e3, -, -, s0, s1, s2, -⟩ := hq k (by omega)
    refine ⟨b, la, lc, _, by rw [e.1, e2], e3, ?_, s1, _, s2⟩
    rw [s0]
    simp [← hl]
  rw [hll] at c3 hs
  rw [hl]
  have HEL := Lib.hid hel
  have HC3 := Lib.hid hll
  clear h hsg hel hl hml hll
  obtain ⟨i0, hi, hz0, hz1, hz2⟩ := info_parts info_IntB
  go_enter Tryz.func37, Tryz.ntmps37
  go_wp2
  go_loopg [3, 13] l.length (fun gk v3 v13 wr => ∃ (k : Nat) (sa : Option Addr) (sc : Nat), k ≤ l.length ∧ gk = l.length - k ∧ v13 = .int .i64 (k : Int) ∧ v3 = .slice sa k sc ∧ wr.ownsRow w.heap.size 3 1 (.slice sa k sc) k (intCells (l.take k)) ∧ Below w.heap.size w wr)
  case atStart => exact ⟨0, none, 0, Nat.zero_le _, by simp, rfl, rfl, by simpa [intCells] using World.ownsRow_nil _ _ _ _, Below.refl _ _⟩
  case round =>
    obtain ⟨k, sa, sc, hk, rfl, rfl, rfl, hown, hb⟩ := hrel
    by_cases hlt : k < l.length
    · obtain ⟨b, la, lc, sy, rfl, hbl, s0, s1, z, s2⟩ := HEL.out _ hb k hlt
      have htk : intCells (l.take (k + 1)) = intCells (l.take k) ++ [.int .i64 l[k]] := by unfold intCells; rw [List.take_succ_eq_append_getElem hlt, List.map_append]; rfl
      have HTK := Lib.hid htk
      obtain ⟨y, hy⟩ : ∃ y, l[k] = y := ⟨_, rfl⟩
      rw [hy] at s0 HTK
      have HO := Lib.hid hown
      have HB := Lib.hid hb
      have hne : ¬ b = wr.heap.size := by omega
      have hsz := hb.size
      clear htk hy hown hb
      go_wp2_with (at_builtin; refine wpList_append_lies _ rfl _ _ 22 rfl w.heap.size 3 i0 _ 1 8 und_IntsB hi hz0 hz1 hz2 rfl (by decide) (.slice sa k sc) k (intCells (l.take k)) rfl ((HO.out.alloc _).alloc _) ⟨wr.heap.size + 1, 0, none⟩ 1 1 [.int .i64 y] rfl rfl (World.news_of_block (cs := #[.int .i64 y]) (t := 3) (fr := (0, 0)) (by simpa using heap_alloc_new (wr.alloc _) _)) (by simp [Value.oneCell']) (by decide) ?_ ?_ ?_ _ rfl ?_; (unfold maxLen; omega); omega; (simp only [World.size_alloc]; omega); intro g9 gcap9 w9 hown9 hgrow9 hat9 hlt9; have HX := Lib.hid (And.intro hown9 hgrow9); clear hown9 hgrow9 hat9 hlt9)
      go_roundg (l.length - (k + 1))
      case measure => omega
      case rel =>
        refine ⟨k + 1, _, _, by omega, rfl, by go_num, rfl, ?_, ?_⟩
        · rw [HTK.out]; exact HX.out.1
        · exact ((HB.out.alloc hsz _).alloc (by simp only [World.size_alloc]; omega) _).grown HX.out.2 (by simp only [World.size_alloc]; omega) (fun q e => (owns_lt HO.out q e).1)
    · obtain rfl : k = l.length := by omega
      rw [List.take_length] at hown
      have HF := Lib.hid (And.intro hown hb)
      clear hown hb
      go_wp2
      go_ret
      exact ⟨_, rfl, HF.out.1, HF.out.2⟩
end Go.Proofs.YtcpaaleogmiamaaGreatDoor
namespace Go.Proofs.YtcpaaleogmiamaaGreatDoor
open Go.RowKit

theorem rcs_of_owns {w : World} {N : Nat} {v : Value} {l : List Rec} {n : Nat} (h : w.ownsRow N 84 4 v n (recCells l)) (hn : n = l.length) : RcsRd w v l := by
  subst hn
  exact (Sl.of_owns h).rd

set_option maxRecDepth 100000 in
set_option maxHeartbeats 4000000 in
theorem L7awake_any {w : World} (hE : Env w) : Calls Tryz.prog 28 #[] w fun e w' => e = .returned (.bool true) ∧ Below w.heap.size w w' := by
  have hnw := fun W => TNew_any 65536 W
  have HNW := Lib.hid hnw
  have HE := Lib.hid hE
  have ep : bs pB = ⟨#[112]⟩ := rfl
  have EP := Lib.hid ep
  clear hnw hE ep
  go_enter Tryz.func28, Tryz.ntmps28
  go_wp2_with fail
  refine (HNW.out _).mono ?_
  rintro _ w1 ⟨rfl, hat, hb⟩
  have htd := newTd w hat hb
  have hop := StOpen_any (pre := pB) (size := 30) HE.out htd (by decide) (by decide)
  rw [openS_new, EP.out] at hop
  have HOP := Lib.hid hop
  obtain ⟨b, hbb⟩ : ∃ b, w.heap.size + 1 = b := ⟨_, rfl⟩
  rw [hbb] at HOP
  rw [hbb]
  clear hat hb htd hop HNW hbb
  go_wp2_with fail
  refine HOP.out.mono ?_
  rintro e w2 ⟨L2, -, -, -, sb, S2, rfl, hs2, -⟩
  simp only at hs2
  have H2 := Lib.hid hs2
  clear hs2 HOP
  -- the first batch
  go_wp2_with fail
  refine (L7batch_any (base := 0) 2 (by omega) (by omega) _).mono ?_
  rintro _ w3 ⟨rv3, rfl, ho3, hb3⟩
  have ha4 := StAppend_any HE.out (H2.out.below hb3) (B := b0) (rcs_of_owns ho3 (recsK_len 0 2).symm) (by simp)
  rw [show appS (newT 65536) ⟨pB, 30, [], 0, false⟩ b0 = (awT1, awX1, 0) from aw_a] at ha4
  have HA4 := Lib.hid ha4
  clear ha4 ho3 hb3 H2
  go_wp2_with fail
  refine HA4.out.mono ?_
  rintro e w4 ⟨S4, L4, rfl, hs4, -, -, -⟩
  simp only at hs4
  have H4 := Lib.hid hs4
  clear hs4 HA4
  -- one out of order
  go_wp2_with fail
  refine (L7batch_any (base := 3) 1 (by omega) (by omega) _).mono ?_
  rintro _ w5 ⟨rv5, rfl, ho5, hb5⟩
  have ha6 := StAppend_any HE.out (H4.out.below hb5) (B := batK 3 1) (rcs_of_owns ho5 (recsK_len 3 1).symm) (by simp [awX1])
  rw [aw_b] at ha6
  have HA6 := Lib.hid ha6
  clear ha6 ho5 hb5 H4
  go_wp2_with fail
  refine HA6.out.mono ?_
  rintro e w6 ⟨S6, L6, rfl, hs6, -, -, -⟩
  simp only at hs6
  have H6 := Lib.hid hs6
  clear hs6 HA6
  -- the next
  go_wp2_with fail
  refine (L7batch_any (base := 2) 3 (by omega) (by omega) _).mono ?_
  rintro _ w7 ⟨rv7, rfl, ho7, hb7⟩
  have ha8 := StAppend_any HE.out (H6.out.below hb7) (B := b2) (rcs_of_owns ho7 (recsK_len 2 3).symm) (by simp [awX1])
  rw [aw_c] at ha8
  have HA8 := Lib.hid ha8
  clear ha8 ho7 hb7 H6
  go_wp2_with fail
  refine HA8.out.mono ?_
  rintro e w8 ⟨S8, L8, rfl, hs8, -, -, -⟩
  simp only at hs8
  have hsy := StSync_any HE.out hs8
  rw [aw_d] at hsy
  have HSY := Lib.hid hsy
  clear hs8 HA8 hsy
  go_wp2_with fail
  refine HSY.out.mono ?_
  rintro e w9 ⟨S, L9, rfl, hs9, -, -, -⟩
  simp only at hs9
  obtain ⟨gv, m, D, hin⟩ := hs9.st
  have hba := StBases_any hin (by simp [awX2])
  have HBA := Lib.hid hba
  have H9 := Lib.hid hs9
  clear hba hin HSY hs9
  go_wp2_with fail
  refine HBA.out.mono ?_
  rintro e w10 ⟨bv, rfl, hbo, hb10⟩
  have hnm := TNames_any (H9.out.below hb10).tp (H9.out.below hb10).names
  rw [aw_names] at hnm
  have HNM := Lib.hid hnm
  obtain ⟨bg, bc, rfl, -, hbg⟩ := hbo.form (by simp [awX2])
  have HB10 := Lib.hid (And.intro hbo hb10)
  clear hnm hbo hb10 HBA
  go_wp2_with fail
  refine HNM.out.mono ?_
  rintro e w11 ⟨nv, rfl, hno, hb11⟩
  obtain ⟨ng, nc, rfl, -, hng⟩ := hno.form (by simp)
  have h11 := H9.out.below (HB10.out.2.trans (hb11.mono HB10.out.2.size))
  have hof := TOff_any h11.tp
  have HOF := Lib.hid hof
  have H11 := Lib.hid (And.intro h11 (And.intro hno (And.intro hb11 (And.intro (owns_upd HB10.out.1 (Upd.of_below (F := fun _ => False) hb11) (fun _ _ h => h)) (owns_lt hno ng rfl)))))
  clear hof h11 hno hb11 HNM
  go_wp2_with fail
  refine HOF.out.mono ?_
  rintro e w12 ⟨rfl, hat12, hu12⟩
  have hu12b : Upd (TpF b (w.heap.size) L9) w11 w12 := hu12.or (fun k e => .inl e)
  have htd12 := H11.out.1.td.tape hat12 hu12b (fun k hk => .inl hk) (by intro y hy; rw [offT_files] at hy; exact H11.out.1.names y hy)
  have hon := TOn_any hat12 (fun y hy => htd12.names y hy) (fv := .slice none 0 0) (l := []) (fun W _ => ⟨rfl, .inl ⟨rfl, rfl⟩⟩)
  have HON := Lib.hid hon
  have H12 := Lib.hid (And.intro htd12 hu12b)
  clear hon hat12 hu12 hu12b htd12 HOF
  go_wp2_with fail
  refine HON.out.mono ?_
  rintro e w13 ⟨rfl, L13, t13, hat13, hbl13, hon13, hu13⟩
  obtain rfl : t13 = awT3 1 := aw_on hon13
  have hu13b : Upd (TpF b w.heap.size L9) w11 w13 := H12.out.2.trans hu13
  have htd13 : Td w w13 b w.heap.size L13 (awT3 1) := H12.out.1.tape hat13 hu13 (fun k hk => .inl (by rw [hbl13] at hk; exact hk)) (by
    intro y hy
    simp only [awT3, List.mem_cons, List.not_mem_nil, or_false] at hy
    rcases hy with rfl | rfl
    · rw [f0_eq]; decide
    · rw [f2_eq]; decide)
  have hop := StOpen_any (pre := pB) (size := 30) HE.out htd13 (by decide) (by decide)
  rw [aw_open, EP.out] at hop
  have HOP := Lib.hid hop
  have H13 := Lib.hid (And.intro hu13b hbl13)
  clear hat13 hbl13 hon13 hu13 hu13b htd13 hop HON H12
  go_wp2_with fail
  refine HOP.out.mono ?_
  rintro e w14 ⟨L14, hu14, -, -, ub, SU, rfl, hsu, -⟩
  simp only at hsu
  have hU : Upd (TpF b w.heap.size L9) w11 w14 := H13.out.1.trans (hu14.mono (fun k _ hk => by
    rcases hk with h | h | h
    · exact .inl h
    · exact .inr (.inl h)
    · exact .inr (.inr (by rw [← H13.out.2]; exact h))))
  obtain ⟨m1, m2, m3, m4, m5⟩ := H11.out
  have hst14 : StAt w14 S sb b (awX2 0) := m1.st.upd hU (fun k hs hf => m1.apart k hf hs)
  have hlt9 : ∀ k, TpF b w.heap.size L9 k → k < w9.heap.size := H9.out.tp.fLt
  have hz10 := HB10.out.2.size
  have hbo14 := owns_upd m4 hU (fun g hg hf => by have h1 := (owns_lt m4 g hg).1; have h2 := hlt9 g hf; omega)
  have hno14 := owns_upd m2 hU (fun g hg hf => by have h1 := (owns_lt m2 g hg).1; have h2 := hlt9 g hf; omega)
  obtain ⟨gvu, mu, Du, hinu⟩ := hsu.st
  have hrd := StRead_any hinu hsu.ok (by simp [awX2]) (by decide) (by decide) 1 2
  rw [aw_read] at hrd
  have HRD := Lib.hid hrd
  have hok0 : StOk (awX2 0) := m1.ok
  have H14 := Lib.hid (And.intro hst14 (And.intro hok0 (And.intro hbo14 (And.intro hno14 (And.intro hsu.st (And.intro hsu.ok hsu.base))))))
  clear hsu hu14 hU hst14 hlt9 hbo14 hno14 hinu hrd m1 m2 m3 m4 m5 hok0 HOP H11 H13 HB10 H9 hz10
  go_upto_region 14 with fail
  have hes : ∀ W, Below w14.heap.size w14 W → Calls Tryz.prog 32 #[.pointer (some ⟨sb, 0, none⟩)] W fun e w' => e = .returned (.int .i64 5) ∧ Below w14.heap.size w14 w' ∧ Below W.heap.size W w' := fun W hW => (StEnd_any (H14.out.1.below hW) H14.out.2.1).mono (fun e w' h => ⟨h.1, below_trans hW h.2, h.2⟩)
  have heu : ∀ W, Below w14.heap.size w14 W → Calls Tryz.prog 32 #[.pointer (some ⟨ub, 0, none⟩)] W fun e w' => e = .returned (.int .i64 5) ∧ Below w14.heap.size w14 w' ∧ Below W.heap.size W w' := fun W hW => (StEnd_any (H14.out.2.2.2.2.1.below hW) H14.out.2.2.2.2.2.1).mono (fun e w' h => ⟨h.1, below_trans hW h.2, h.2⟩)
  have hss : ∀ W, Below w14.heap.size w14 W → Calls Tryz.prog 54 #[.pointer (some ⟨sb, 0, none⟩)] W fun e w' => e = .returned (.int .i64 0) ∧ w' = W := fun W hW => StStart_any (H14.out.1.below hW)
  have hcl : ∀ W, Below w14.heap.size w14 W → W.cell? ⟨bg, 1, none⟩ = some (.int .i64 2) ∧ W.cell? ⟨ng, 1, none⟩ = some (.string ⟨#[112, 46, 48, 48, 48, 48, 48, 48, 48, 48, 48, 48, 48, 48, 50]⟩) := by
    intro W hW
    obtain ⟨q1, o1, c1, e1, -, -, -, k1⟩ := Rd.at (Rd.below (Sl.of_owns H14.out.2.2.1).rd hW) (by simp [awX2])
    obtain ⟨q2, o2, c2, e2, -, -, -, k2⟩ := Rd.at (Rd.below (Sl.of_owns H14.out.2.2.2.1).rd hW) (by simp)
    simp only [Value.slice.injEq, Option.some.injEq, Addr.mk.injEq, and_true] at e1 e2
    obtain ⟨⟨rfl, rfl⟩, -⟩ := e1
    obtain ⟨⟨rfl, rfl⟩, -⟩ := e2
    refine ⟨k1 1 _ rfl, ?_⟩
    have h2 := k2 1 (.string (bs f2)) rfl
    rw [f2_eq] at h2
    exact h2
  have hbase := H14.out.2.2.2.2.2.2
  have HES := Lib.hid hes
  have HEU := Lib.hid heu
  have HSS := Lib.hid hss
  have HCL := Lib.hid hcl
  have HBS := Lib.hid hbase
  clear hes heu hss hcl hbase H14
  go_wp2_with fail
  refine HRD.out.mono ?_
  rintro e w15 ⟨v15, rfl, hro, hb15⟩
  obtain ⟨rg, rc, rfl, -, hrg⟩ := hro.form (by simp)
  have hrr : ∀ W, Below w15.heap.size w15 W → W.cell? ⟨rg, 0, none⟩ = some (.int .i64 1) ∧ W.cell? ⟨rg, 4, none⟩ = some (.int .i64 2) := by
    intro W hW
    obtain ⟨q1, o1, c1, e1, -, -, -, k1⟩ := Rd.at (Rd.below (Sl.of_owns hro).rd hW) (by simp)
    simp only [Value.slice.injEq, Option.some.injEq, Addr.mk.injEq, and_true] at e1
    obtain ⟨⟨rfl, rfl⟩, -⟩ := e1
    exact ⟨k1 0 _ rfl, k1 4 _ rfl⟩
  have HRR := Lib.hid hrr
  have HB15 := Lib.hid hb15
  clear hro hrr hb15 HRD
  go_wp2_with fail
  refine (HSS.out _ HB15.out).mono ?_
  rintro e wv ⟨rfl, hwv⟩
  subst hwv
  go_wp2_with fail
  refine (HES.out _ HB15.out).mono ?_
  rintro e w16 ⟨rfl, hb16, hc16⟩
  obtain ⟨x1, n1⟩ := HCL.out _ hb16
  have HB16 := Lib.hid (And.intro hb16 hc16)
  clear hb16 hc16
  go_wp2_with fail
  refine (HEU.out _ HB16.out.1).mono ?_
  rintro e w17 ⟨rfl, hb17, hc17⟩
  obtain ⟨r0, r1⟩ := HRR.out _ (below_trans HB16.out.2 hc17)
  have hfin : Below w.heap.size w w17 := HBS.out.trans (hb17.mono HBS.out.size)
  have HFIN := Lib.hid hfin
  clear hb17 hc17 hfin x1 n1
  go_wp2_with fail
  go_ret
  exact ⟨rfl, HFIN.out⟩
end Go.Proofs.YtcpaaleogmiamaaGreatDoor
namespace Go.Proofs.YtcpaaleogmiamaaGreatDoor
open Go.RowKit

theorem rec_ext {a b : Rec} (h1 : a.off = b.off) (h2 : a.key = b.key) (h3 : a.val = b.val) (h4 : a.gone = b.gone) : a = b := by
  obtain ⟨a1, a2, a3, a4⟩ := a
  obtain ⟨b1, b2, b3, b4⟩ := b
  simp only at h1 h2 h3 h4
  subst h1 h2 h3 h4
  rfl

set_option maxRecDepth 100000 in
set_option maxHeartbeats 4000000 in
theorem Recs7_same {w : World} {v u : Value} {l : List Rec} (hv : RcsRd w v l) (hu : RcsRd w u l) : Calls Tryz.prog 35 #[v, u] w fun e w' => e = .returned (.bool true) ∧ Below w.heap.size w w' := by
  obtain ⟨va, vc, rfl, -, hml, hvc⟩ := hv.cells
  obtain ⟨ua, uc, rfl, -, -, huc⟩ := hu.cells
  have hl : (l.length : Int) ≤ 9223372036854775807 := by unfold maxLen at hml; omega
  have hvk : ∀ W, Below w.heap.size w W → ∀ k (hk : k < l.length), ∃ b off, va = some ⟨b, off, none⟩ ∧ W.cell? ⟨b, off + k * 4, none⟩ = some (.int .i64 l[k].off) ∧ W.cell? ⟨b, off + k * 4 + 1, none⟩ = some (.string l[k].key) ∧
      W.cell? ⟨b, off + k * 4 + 2, none⟩ = some (.string l[k].val) ∧ W.cell? ⟨b, off + k * 4 + 3, none⟩ = some (.bool l[k].gone) := by
    intro W hW k hk
    obtain ⟨a, c, e, -, -, hc⟩ := (hv.below hW).cells
    simp only [Value.slice.injEq, true_and] at e
    obtain ⟨b, off, e2, -, h⟩ := hc k hk
    exact ⟨b, off, e.1.trans e2, h⟩
  have huk : ∀ W, Below w.heap.size w W → ∀ k (hk : k < l.length), ∃ b off, ua = some ⟨b, off, none⟩ ∧ W.cell? ⟨b, off + k * 4, none⟩ = some (.int .i64 l[k].off) ∧ W.cell? ⟨b, off + k * 4 + 1, none⟩ = some (.string l[k].key) ∧
      W.cell? ⟨b, off + k * 4 + 2, none⟩ = some (.string l[k].val) ∧ W.cell? ⟨b, off + k * 4 + 3, none⟩ = some (.bool l[k].gone) := by
    intro W hW k hk
    obtain ⟨a, c, e, -, -, hc⟩ := (hu.below hW).cells
    simp only [Value.slice.injEq, true_and] at e
    obtain ⟨b, off, e2, -, h⟩ := hc k hk
    exact ⟨b, off, e.1.trans e2, h⟩
  have HVK := Lib.hid hvk
  have HUK := Lib.hid huk
  clear hv hu hvc huc hvk huk hml
  go_enter Tryz.func35, Tryz.ntmps35
  go_wp2_with fail
  go_loopg [5] l.length (fun gk v5 wr => ∃ k : Nat, k ≤ l.length ∧ gk = l.length - k ∧ v5 = .int .i64 k ∧ Below w.heap.size w wr)
  case atStart => exact ⟨0, Nat.zero_le _, rfl, rfl, Below.refl _ _⟩
  case round =>
    obtain ⟨k, hk, rfl, rfl, hb⟩ := hrel
    by_cases hkt : k < l.length
    · obtain ⟨b1, o1, rfl, x0, x1, x2, x3⟩ := HVK.out _ hb k hkt
      obtain ⟨b2, o2, rfl, y0, y1, y2, y3⟩ := HUK.out _ hb k hkt
      have j1 : (k : Int) < (l.length : Int) := by omega
      have j2 : (0 : Int) ≤ (k : Int) := by omega
      have HB := Lib.hid hb
      clear hb
      go_upto_region 6 with fail
      go_quiet (fail)
      go_wp2_with fail
      go_roundg (l.length - (k + 1))
      case measure => omega
      case rel => exact ⟨k + 1, by omega, rfl, by go_num, below_drewN HB.out _⟩
    · obtain rfl : k = l.length := by omega
      go_wp2_with fail
      go_ret
      exact ⟨rfl, hb⟩
end Go.Proofs.YtcpaaleogmiamaaGreatDoor
namespace Go.Proofs.YtcpaaleogmiamaaGreatDoor
open Go.RowKit
section
attribute [local go_sem] Oper.semAt_some

set_option maxRecDepth 100000 in
set_option maxHeartbeats 4000000 in
theorem StIter_nil {w : World} {xb ob : Nat} (hx : w.cell? ⟨xb, 0, none⟩ = some (.pointer none)) (hxb : xb < w.heap.size) (G : Nat → Prop) :
    SeqP 8 Tryz.prog 149 #[.pointer (some ⟨xb, 0, none⟩), .pointer (some ⟨ob, 0, none⟩)] (fun y : Value × Batch => #[y.2.v y.1]) PreB G (fun xs => xs = []) (fun _ => False) w := by
  intro l J Jx W hbW hJ hJx hY h0 hl hlW
  have x0 : W.cell? ⟨xb, 0, none⟩ = some (.pointer none) := (hbW.cell (p := ⟨xb, 0, none⟩) hxb).trans hx
  have hj := h0 W (Below.refl _ _)
  refine callsIn_of_wp Tryz.func149 rfl trivial ?_ rfl
  simp only [Tryz.ntmps149, List.size_toArray, List.length_cons, List.length_nil, Nat.reduceAdd, Nat.reduceSub, Array.replicate_succ, Array.replicate_zero, List.push_toArray, List.append_toArray, List.nil_append, List.cons_append]
  have HJ := Lib.hid hj
  clear hY h0 hJ hJx hj
  gi_wp2_with fail
  refine bodyPost_ret (results_none rfl _ _ _) rfl ?_
  exact ⟨⟨_, rfl⟩, .inl ⟨_, [], rfl, HJ.out⟩⟩

set_option maxRecDepth 100000 in
set_option maxHeartbeats 4000000 in
theorem StRead_nil (off most : Int) (w : World) : Calls Tryz.prog 34 #[.pointer none, .int .i64 off, .int .i64 most] w (RdTo w []) := by
  refine (callsIn_wide (n := 9)).1 ?_
  refine callsIn_of_wp_marks Tryz.func34 rfl trivial ?_ rfl
  simp only [Tryz.ntmps34, List.size_toArray, List.length_cons, List.length_nil, Nat.reduceAdd, Nat.reduceSub, Array.replicate_succ, Array.replicate_zero, List.push_toArray, List.append_toArray, List.nil_append, List.cons_append]
  gi_wp2_with fail
  obtain ⟨n, hn⟩ : ∃ n, w.heap.size = n := ⟨_, rfl⟩
  refine ⟨trivial, (callsIn_wide.2 (StBatches_any _ off _)).mono ?_⟩
  rintro _ wq ⟨rfl, hwq⟩
  have hsz : wq.heap.size = n + 6 := by rw [hwq, ← hn]; simp
  have hbq : Below w.heap.size w wq := by
    rw [hwq]
    exact ((((((Below.refl _ w).alloc (Nat.le_refl _) _).alloc (by simp) _).alloc (by simp; omega) _).alloc (by simp; omega) _).alloc (by simp; omega) _).alloc (by simp; omega) _
  have g0 : wq.heap[n]? = some (.cells #[.int .i64 off] 3 (0, 0)) := by rw [hwq]; exact al_old _ (al_old _ (al_old _ (al_old _ (al_old _ (al_at _ hn)))))
  have g1 : wq.heap[n + 1]? = some (.cells #[.int .i64 most] 3 (0, 0)) := by rw [hwq]; exact al_old _ (al_old _ (al_old _ (al_old _ (al_at _ (by simp only [World.size_alloc]; omega)))))
  have g2 : wq.heap[n + 2]? = some (.cells #[.slice none 0 0] 38 (0, 0)) := by rw [hwq]; exact al_old _ (al_old _ (al_old _ (al_at _ (by simp only [World.size_alloc]; omega))))
  have g3 : wq.heap[n + 3]? = some (.cells #[.slice none 0 0] 38 (0, 0)) := by rw [hwq]; exact al_old _ (al_old _ (al_at _ (by simp only [World.size_alloc]; omega)))
  have g4 : wq.heap[n + 4]? = some (.cells #[.pointer none] 74 (0, 0)) := by rw [hwq]; exact al_old _ (al_at _ (by simp only [World.size_alloc]; omega))
  simp only [World.size_alloc, hn]
  rw [show n + 1 + 1 = n + 2 from rfl, show n + 2 + 1 = n + 3 from rfl, show n + 3 + 1 = n + 4 from rfl, show n + 4 + 1 = n + 5 from rfl]
  have hit := StIter_nil (w := wq) (xb := n + 4) (ob := n + 5) (cells_of g4 0 _ rfl) (by omega) (fun k => k = n + 2 ∨ k = n + 3)
  have HWQ := Lib.hid (And.intro hbq (And.intro hsz hn))
  clear hwq hbq hn g4
  gi_wp2_with fail
  have hG0 : ∀ A, Below wq.heap.size wq A → RdI n off most wq A.heap.size [] A := fun A hb =>
    ⟨heap_below hb g0, heap_below hb g1, heap_below hb g2, ⟨_, heap_below hb g3, World.ownsRow_nil _ _ _ _⟩, Nat.zero_le _, hb.size, Upd.of_below hb⟩
  refine wp_rangeP (n := 9) (gf := 149) (lb := #[.pointer (some ⟨n + 4, 0, none⟩), .pointer (some ⟨n + 5, 0, none⟩)]) rfl (enters_of Tryz.func149 (by kernel_rfl) rfl) hit (fun _ => rfl) (RdI n off most wq) (RdX n off most wq)
    (fun C s A B hi hb => hi.below hb) (fun c C s A B hi hb => hi.below hb) (fun C s A l o o' hi hl hk ho => hi.put hl hk ho) (fun c C s A l o o' hi hl hk ho => hi.put hl hk ho) (fun N y A l o o' hp _ hk ho => hp.put hk ho) hG0
    (fun _ _ _ _ => True) (fun _ _ _ _ _ _ _ _ _ _ _ => trivial) (fun N y A B hp hb => hp.below hb) ?assign ?body ?done ?stop
  case assign =>
    rintro l C pre ⟨rv, bt⟩ A0 A hC hCA hi hb hp
    replace hp : A.ownsRow A0.heap.size 84 4 rv bt.recs.length (recCells bt.recs) := hp
    obtain ⟨ra, rc, rfl, -⟩ := (Sl.of_owns hp).shape
    simp only [Batch.v]
    gi_wp2
    exact ⟨below_alloc _ _, trivial⟩
  case body =>
    intro l C pre x a' A0 A h1 h2 h3 h4 h5 h6 h7 h8 h9
    exact h9.elim
  case done =>
    rintro Dd C xs A hD rfl hi hK
    obtain ⟨ov, ho, hw⟩ := hi.out
    have eO : outF off [] = [] := rfl
    rw [eO] at hw
    obtain ⟨oa, oc, rfl, -⟩ := (Sl.of_owns hw).shape
    have hC2 : ∀ g, (Value.slice oa ([] : List Rec).length oc).ownBlock = some g → C ≤ g := fun g hg => (owns_lt hw g hg).1
    have c3 : A.cell? ⟨n + 3, 0, none⟩ = some (.slice oa 0 oc) := cells_of ho 0 _ rfl
    have c2 : A.cell? ⟨n + 2, 0, none⟩ = some (.slice none 0 0) := cells_of hi.b2 0 _ rfl
    have z2 : A.frozen? ⟨n + 2, 0, none⟩ = false := frozen_of hi.b2
    have hset := upd_set1 A (n + 2) 0 (.slice oa 0 oc)
    have hu : Upd (fun k => k = n + 2 ∨ k = n + 3) wq (A.setCell ⟨n + 2, 0, none⟩ (.slice oa 0 oc)) := hi.upd.trans (hset.mono (fun k _ e => .inl e))
    have hz := HWQ.out.2.1
    have hcc := hi.c
    have hfin := rd_fin (o := .slice oa 0 oc) (R := []) HWQ.out.1 (by have := HWQ.out.2.2; omega) hi.c hu (setCell_same (o := 0) (v := .slice oa 0 oc) hi.b2) (owns_upd hw hset (fun q hq e => by have := hC2 q hq; omega)) hD ((hset.block Dd (Array.getElem?_eq_some_iff.1 hK).1 (by omega)).trans hK)
    have HFIN := Lib.hid hfin
    clear hfin hset hu hw hi ho hz
    gi_wp2_with fail
    obtain ⟨h1, h2, h3⟩ := HFIN.out
    refine ⟨by simp, .inl ⟨_, _, rfl, run_takeDeferred h1, ?_⟩⟩
    refine ⟨.slice oa 0 oc, by simp [results, Tryz.f34, go_sem, h2], h3⟩
  case stop =>
    intro Dd c C pre A hD h
    exact h.elim
end
end Go.Proofs.YtcpaaleogmiamaaGreatDoor
