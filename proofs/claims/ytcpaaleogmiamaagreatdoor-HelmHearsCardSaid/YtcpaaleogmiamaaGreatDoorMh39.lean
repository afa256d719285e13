/- plan.Wants hands back a row that is the call's own. (PlW's walk, told more.) -/
/- The walk of helm.beat. -/
import Derived.Test.YtcpaaleogmiamaaGreatDoorMh19
import Derived.Test.YtcpaaleogmiamaaGreatDoorMh38
namespace Go.Proofs.YtcpaaleogmiamaaGreatDoor
open Go.RowKit

set_option maxRecDepth 100000 in
set_option maxHeartbeats 4000000 in
theorem Wants_own {w : World} {v : Value} {p : Pl} (h : PlanRd w v p) (hl4 : p.parts.length ≤ 1000) (n : Int) : Calls Tryz.prog 19 #[v, .int .i64 n] w fun e w' =>
    ∃ tv, e = .returned tv ∧ w'.ownsRow w.heap.size 3 1 tv (wantsP p n).length (intCells (wantsP p n)) ∧ Below w.heap.size w w' := by
  obtain ⟨pv, lv, rfl, hp, hl⟩ := h
  obtain ⟨nodes, copies, P, L⟩ := p
  simp only at hp hl hl4 ⊢
  obtain ⟨pa, pc, rfl, -, -, hP⟩ := hp.cells
  obtain ⟨la, lc, rfl, -, -, -⟩ := hl.cells
  obtain ⟨i1, ki, kz0, kz1, kz2⟩ := info_parts info_Int
  have HP := Lib.hid hP
  have hpl : (P.length : Int) ≤ 1000 := by omega
  clear hp hl hP
  obtain ⟨f, hf⟩ : ∃ f : Pt → Bool, f = wantP ⟨nodes, copies, P, L⟩ n := ⟨_, rfl⟩
  have hw : wantsP ⟨nodes, copies, P, L⟩ n = placesB f P := by unfold wantsP; rw [hf]
  rw [hw]
  have HF := Lib.hid hf
  clear hw hf
  go_enter Tryz.func19, Tryz.ntmps19
  go_wp2
  go_loopg [5, 6, 7, 11] P.length (fun gk out _ _ i wr => ∃ (k : Nat), k ≤ P.length ∧ gk = P.length - k ∧ i = .int .i64 k ∧ wr.ownsRow (w.heap.size + 1) 3 1 out (placesB f (P.take k)).length (intCells (placesB f (P.take k))) ∧
    wr.heap[w.heap.size]? = some (.cells #[.int .i64 nodes, .int .i64 copies, .slice pa P.length pc, .slice la L.length lc] 52 (0, 0)) ∧ Below w.heap.size w wr)
  case atStart =>
    exact ⟨0, Nat.zero_le _, rfl, rfl, World.ownsRow_nil _ _ _ _, heap_alloc_new _ _, below_alloc _ _⟩
  case round =>
    obtain ⟨k, hk, rfl, rfl, hown, hx, hbel⟩ := hrel
    have HX := Lib.hid (And.intro hown (And.intro hx hbel))
    have hsz := hbel.size
    have hxlt : w.heap.size < wr.heap.size := (Array.getElem?_eq_some_iff.1 hx).1
    by_cases hlt : k < P.length
    · obtain ⟨b, off, ca, cc, rfl, hb, c0, c1, c2, hch⟩ := HP.out k hlt
      have c0 := below_some hbel c0 hb
      have c1 := below_some hbel c1 hb
      have c2 := below_some hbel c2 hb
      have hch2 := (hch.below hbel).below (below_alloc wr (.cells #[.int .i64 P[k].epoch, .slice ca P[k].chain.length cc, .int .i64 P[k].learner] 36))
      have hz : (wr.alloc (.cells #[.int .i64 P[k].epoch, .slice ca P[k].chain.length cc, .int .i64 P[k].learner] 36)).ownsRow (w.heap.size + 1) 3 1 u5 (placesB f (P.take k)).length (intCells (placesB f (P.take k))) := hown.alloc _
      have hxz := (Below.heap_alloc wr (.cells #[.int .i64 P[k].epoch, .slice ca P[k].chain.length cc, .int .i64 P[k].learner] 36) _ hxlt).trans hx
      have HZ := Lib.hid (And.intro hz (And.intro hxz (hbel.alloc hsz (.cells #[.int .i64 P[k].epoch, .slice ca P[k].chain.length cc, .int .i64 P[k].learner] 36))))
      have hx0 := cells_of hxz 0 _ rfl
      have hx1 := cells_of hxz 1 _ rfl
      have i1' : (k : Int) < (P.length : Int) := by omega
      have i2 : (0 : Int) ≤ (k : Int) := by omega
      have hno : f P[k] = false → placesB f (P.take (k + 1)) = placesB f (P.take k) := fun h => by rw [placesB_succ f P k hlt, h]; simp
      have hye : f P[k] = true → placesB f (P.take (k + 1)) = placesB f (P.take k) ++ [(k : Int)] := fun h => by rw [placesB_succ f P k hlt, h]; simp
      have hfy : f P[k] = (inB n 1 nodes && (decide ((P[k].chain.length : Int) < copies) && (decide (P[k].learner = 0) && !P[k].chain.contains n))) := by rw [HF.out]; rfl
      have hpl2 := placesB_length f (P.take k)
      have hpl3 : (placesB f (P.take k)).length ≤ 1000 := by simp at hpl2; omega
      have HNO := Lib.hid hno
      have HYE := Lib.hid hye
      have HFY := Lib.hid hfy
      have HCH := Lib.hid hch2
      clear hno hye hfy hch hch2 hz hxz hx hbel hown hpl2
      generalize P[k] = y at *
      obtain ⟨ep, ch, le⟩ := y
      simp only at *
      obtain ⟨b1, hb1⟩ : ∃ b1, inB n 1 nodes = b1 := ⟨_, rfl⟩
      obtain ⟨b4, hb4⟩ : ∃ b4, ch.contains n = b4 := ⟨_, rfl⟩
      rw [hb1, hb4] at HFY
      have HB1 := Lib.hid hb1
      have HB4 := Lib.hid hb4
      clear hb1 hb4
      cases b1
      · go_wp2_with (first | (go_at_call 74; refine (within_any _ _ _ _).mono ?_; rintro _ w1 ⟨rfl, rfl⟩; rw [HB1.out]) | (go_at_call 75; refine (Contains_any HCH.out n).mono ?_; rintro _ w1 ⟨rfl, rfl⟩; rw [HB4.out]))
        go_roundg (P.length - (k + 1))
        case measure => omega
        case rel => exact ⟨k + 1, by omega, rfl, by go_num, by rw [HNO.out (by simp [HFY.out] <;> (intros; omega))]; exact HZ.out.1, HZ.out.2.1, HZ.out.2.2⟩
      · by_cases h2 : (ch.length : Int) < copies
        · by_cases h3 : le = 0
          · subst h3
            cases b4
            · go_wp2_with (first | (go_at_call 74; refine (within_any _ _ _ _).mono ?_; rintro _ w1 ⟨rfl, rfl⟩; rw [HB1.out]) | (go_at_call 75; refine (Contains_any HCH.out n).mono ?_; rintro _ w1 ⟨rfl, rfl⟩; rw [HB4.out]) | (at_builtin; refine wpList_append_lies _ rfl _ _ 22 rfl (w.heap.size + 1) 3 i1 _ 1 8 und_Ints ki kz0 kz1 kz2 rfl (by decide) u5 (placesB f (P.take k)).length (intCells (placesB f (P.take k))) rfl (HZ.out.1.alloc _) ⟨wr.heap.size + 1, 0, none⟩ 1 1 [.int .i64 k] rfl rfl (World.news_of_block (cs := #[.int .i64 k]) (t := 3) (fr := (0, 0)) (heap_new1 wr _ _)) (by simp [Value.oneCell']) (by decide) ?_ ?_ ?_ _ rfl ?_; (unfold maxLen; omega); (omega); (simp only [World.size_alloc]; omega); intro g7 cap7 w7 hown7 hgrow7 hat7 hlt7; have H7 := Lib.hid (And.intro hown7 hgrow7); clear hown7 hgrow7 hat7 hlt7))
              have hu7 := (upd_alloc (fun b => some b = u5.ownBlock) _ (.cells #[.int .i64 (k : Int)] 3)).trans (upd_grown H7.out.2)
              have hlo := fun g hg => (owns_lt HZ.out.1 g hg).1
              go_roundg (P.length - (k + 1))
              case measure => omega
              case rel =>
                refine ⟨k + 1, by omega, rfl, by go_num, ?_, ?_, ?_⟩
                · rw [HYE.out (by simp [HFY.out, h2])]
                  have := H7.out.1
                  simpa [intCells] using this
                · rw [hu7.block _ (by simp; omega) (fun e => by have := hlo _ e.symm; omega)]
                  exact HZ.out.2.1
                · exact HZ.out.2.2.trans (hu7.toBelow (by simp; omega) (fun b e => by have := hlo _ e.symm; omega))
            · go_wp2_with (first | (go_at_call 74; refine (within_any _ _ _ _).mono ?_; rintro _ w1 ⟨rfl, rfl⟩; rw [HB1.out]) | (go_at_call 75; refine (Contains_any HCH.out n).mono ?_; rintro _ w1 ⟨rfl, rfl⟩; rw [HB4.out]))
              go_roundg (P.length - (k + 1))
              case measure => omega
              case rel => exact ⟨k + 1, by omega, rfl, by go_num, by rw [HNO.out (by simp [HFY.out] <;> (intros; omega))]; exact HZ.out.1, HZ.out.2.1, HZ.out.2.2⟩
          · go_wp2_with (first | (go_at_call 74; refine (within_any _ _ _ _).mono ?_; rintro _ w1 ⟨rfl, rfl⟩; rw [HB1.out]) | (go_at_call 75; refine (Contains_any HCH.out n).mono ?_; rintro _ w1 ⟨rfl, rfl⟩; rw [HB4.out]))
            go_roundg (P.length - (k + 1))
            case measure => omega
            case rel => exact ⟨k + 1, by omega, rfl, by go_num, by rw [HNO.out (by simp [HFY.out] <;> (intros; omega))]; exact HZ.out.1, HZ.out.2.1, HZ.out.2.2⟩
        · go_wp2_with (first | (go_at_call 74; refine (within_any _ _ _ _).mono ?_; rintro _ w1 ⟨rfl, rfl⟩; rw [HB1.out]) | (go_at_call 75; refine (Contains_any HCH.out n).mono ?_; rintro _ w1 ⟨rfl, rfl⟩; rw [HB4.out]))
          go_roundg (P.length - (k + 1))
          case measure => omega
          case rel => exact ⟨k + 1, by omega, rfl, by go_num, by rw [HNO.out (by simp [HFY.out] <;> (intros; omega))]; exact HZ.out.1, HZ.out.2.1, HZ.out.2.2⟩
    · have i1' : ¬ (k : Int) < (P.length : Int) := by omega
      have hkl : P.take k = P := List.take_of_length_le (by omega)
      rw [hkl] at hown
      have HO := Lib.hid hown
      clear hown hkl hx
      go_wp2
      go_ret
      exact ⟨_, rfl, owns_mono HO.out (Nat.le_succ _), hbel⟩
end Go.Proofs.YtcpaaleogmiamaaGreatDoor
namespace Go.Proofs.YtcpaaleogmiamaaGreatDoor
open Go.RowKit

/-- A node is brought up wherever it is wanted, and told of all places. -/
def wantR (life nd : Int) (t : Tp) (p : Pl) (d : Bool) (E0 : List Pm) : (Tp × Pl × Bool × Int) × List Pm :=
  if (joinsR life nd (wantsP p nd) t p d).1.2.2.2 ≠ 0 then ((joinsR life nd (wantsP p nd) t p d).1, E0 ++ (joinsR life nd (wantsP p nd) t p d).2)
  else ((joinsR life nd (wantsP p nd) t p d).1, (E0 ++ (joinsR life nd (wantsP p nd) t p d).2) ++ ownE (joinsR life nd (wantsP p nd) t p d).1.2.1 nd)
def beatR (life nd lf : Int) (t : Tp) (p : Pl) (d : Bool) : (Tp × Pl × Bool × Int) × List Pm :=
  if lifeP p.lives nd < lf then wantR life nd (doR t p life d ⟨1, nd, 0, lf⟩).1 (doR t p life d ⟨1, nd, 0, lf⟩).2.1 (doR t p life d ⟨1, nd, 0, lf⟩).2.2.1 (doE t p life d ⟨1, nd, 0, lf⟩)
  else wantR life nd t p d []

theorem doR_good {t : Tp} {p : Pl} {life : Int} {d : Bool} {x : Event} (h : goodP p = true) : goodP (doR t p life d x).2.1 = true := by
  unfold doR
  split
  · exact h
  · split
    · exact h
    · rename_i h1
      split
      · exact h
      · have h2 : (applyP p x).2.2 = 0 := by simpa using h1
        exact applyP_good (x := x) (q := (applyP p x).1) (t := (applyP p x).2.1) (by rw [← h2])

theorem ownE_succ (q : Pl) (nd : Int) (k : Nat) (hk : k < q.parts.length) : (ownE q nd).take (k + 1) = (ownE q nd).take k ++ [⟨(k : Int), (atP q.parts (k : Int)).epoch, (atP q.parts (k : Int)).learner, nd, q.lives.length⟩] := by
  have hl : k < (ownE q nd).length := by simpa [ownE] using hk
  rw [List.take_succ_eq_append_getElem hl]
  simp [ownE]

set_option maxRecDepth 100000 in
set_option maxHeartbeats 4000000 in
theorem Hbeat_any {w0 w : World} {K0 : (Nat → Prop) → Prop} {hb b mb q : Nat} {L : TpL} {t : Tp} {v : Value} {p : Pl} {M : List (Int × Int)} {life : Int} {dead : Bool} (hE : Env w0) (h : HmW w0 w hb b mb q L t v p M life dead) (hK : KeepAt K0 w hb b mb q L v p) (hg : goodP p = true) (nd lf : Int) (hk : lifeP p.lives nd ≤ lf)
    (hd : lifeP p.lives nd < lf → (doR t p life dead ⟨1, nd, 0, lf⟩).2.2.2 = 0 ∨ (doR t p life dead ⟨1, nd, 0, lf⟩).2.2.2 = 32) :
    Calls Tryz.prog 69 #[.pointer (some ⟨hb, 0, none⟩), .int .i64 nd, .int .i64 lf] w (MovedTo w0 w hb b mb q L K0 (missP M nd 0) life (beatR life nd lf t p dead).1 (beatR life nd lf t p dead).2) := by
  obtain ⟨R, hR⟩ : ∃ R, beatR life nd lf t p dead = R := ⟨_, rfl⟩
  rw [hR]
  obtain ⟨kn, hkn⟩ : ∃ kn, lifeP p.lives nd = kn := ⟨_, rfl⟩
  rw [hkn] at hk hd
  have hlife := fun W (hb' : Below w.heap.size w W) => Life_any (h.below hb').hm.plan.rd (goodP_iff.1 hg).2.2.2.2.2 (by have := (small_of_good hg).2.2; omega) nd
  rw [hkn] at hlife
  obtain ⟨pv, lv, hv, c0, c1, c2, c3, c4, c5, -⟩ := h.hm.cells
  have hRR : R = if kn < lf then wantR life nd (doR t p life dead ⟨1, nd, 0, lf⟩).1 (doR t p life dead ⟨1, nd, 0, lf⟩).2.1 (doR t p life dead ⟨1, nd, 0, lf⟩).2.2.1 (doE t p life dead ⟨1, nd, 0, lf⟩) else wantR life nd t p dead [] := by rw [← hR, beatR, hkn]
  have HB0 := Lib.hid (BtW.start h hK)
  clear hK
  subst hv
  have HL := Lib.hid hlife
  have HR := Lib.hid hRR
  have HG := Lib.hid hg
  have HD := Lib.hid hd
  have hws : w0.heap.size ≤ w.heap.size := h.base.size
  have HWS := Lib.hid hws
  have H := Lib.hid h
  clear hlife hR hRR hg hd hkn h hws
  have hk' : ¬ lf < kn := by omega
  obtain ⟨bl, hbl⟩ : ∃ bl, decide (kn < lf) = bl := ⟨_, rfl⟩
  have hbl2 : bl = true ↔ kn < lf := by rw [← hbl]; simp
  have HBL := Lib.hid hbl2
  clear hbl2
  go_enter Tryz.func69, Tryz.ntmps69
  go_wp2_with fail
  refine (HL.out _ (Below.refl _ _)).mono ?_
  rintro _ w1 ⟨rfl, hb1⟩
  have HB1 := Lib.hid (HB0.out.below hb1)
  have HH1 := Lib.hid hb1
  clear hb1
  go_upto_if 28 with fail
  go_cut [9, 10, 11] from 29 to 44 (fun v9 _ _ wc => ∃ (a : Option Addr) (c : Nat) (E : List Pm) (L' : TpL) (t' : Tp) (v' : Value) (p' : Pl) (d' : Bool), v9 = .slice a E.length c ∧ E.length ≤ 1000 ∧ BtW w0 w K0 L wc hb b mb q L' t' v' p' M life d' (.slice a E.length c) E ∧ R = wantR life nd t' p' d' E ∧ goodP p' = true)
  case first =>
    cases bl with
    | true =>
      have hlt : kn < lf := HBL.out.1 rfl
      have hdo := HDo_any hE HB1.out.hm ⟨1, nd, 0, lf⟩
      have hgd := doR_good (t := t) (life := life) (d := dead) (x := ⟨1, nd, 0, lf⟩) HG.out
      have hRR := HR.out
      rw [if_pos hlt] at hRR
      have hcd := HD.out hlt
      obtain ⟨r1, r2, r3, cd, hdr⟩ : ∃ r1 r2 r3 cd, doR t p life dead ⟨1, nd, 0, lf⟩ = (r1, r2, r3, cd) := ⟨_, _, _, _, rfl⟩
      obtain ⟨E1, hde⟩ : ∃ E1, doE t p life dead ⟨1, nd, 0, lf⟩ = E1 := ⟨_, rfl⟩
      rw [hdr, hde] at hdo hRR
      rw [hdr] at hcd hgd
      simp only at hcd hRR hgd
      have HDO := Lib.hid hdo
      have HRR := Lib.hid (And.intro hRR hgd)
      clear hdo hRR hdr hde hgd
      go_wp2_with fail
      refine HDO.out.mono ?_
      rintro _ w5 hd
      obtain ⟨a1, c1, L5, v5, rfl, hb5, hm5, hl5, ho5⟩ := HB1.out.did hd
      have H5 := Lib.hid (And.intro (hb5.took hm5 HH1.out.size ho5) (And.intro hl5 HRR.out))
      clear hd hb5 hm5 hl5 ho5
      rcases hcd with rfl | rfl
      · go_wp2_with fail
        go_meet
        exact ⟨a1, c1, E1, L5, r1, v5, r2, r3, rfl, H5.out.2.1, H5.out.1, H5.out.2.2⟩
      · go_wp2_with fail
        go_meet
        exact ⟨a1, c1, E1, L5, r1, v5, r2, r3, rfl, H5.out.2.1, H5.out.1, H5.out.2.2⟩
    | false =>
      have hlt : ¬ kn < lf := fun h => by have := HBL.out.2 h; cases this
      have hRR := HR.out
      rw [if_neg hlt] at hRR
      have H5 := Lib.hid (And.intro hRR HG.out)
      clear hRR
      go_wp2_with fail
      go_meet
      exact ⟨none, 0, [], L, t, _, p, dead, rfl, Nat.zero_le _, HB1.out, H5.out.1, H5.out.2⟩
  obtain ⟨a, c, E, L', t', v', p', d', rfl, hEl, hbt, hRw, hgp⟩ := hcut
  -- the misses
  obtain ⟨ks, hks⟩ : ∃ ks, wantsP p' nd = ks := ⟨_, rfl⟩
  have hkl : ks.length ≤ 4 := by
    have h1 := placesB_length (wantP p' nd) p'.parts
    have h2 := (goodP_iff.1 hgp).2.2.1.2
    rw [← hks]; unfold wantsP; omega
  obtain ⟨J, hJ⟩ : ∃ J, joinsR life nd ks t' p' d' = J := ⟨_, rfl⟩
  rw [wantR, hks, hJ] at hRw
  obtain ⟨pv2, lv2, hv2, -, -, -, -, -, y5, -⟩ := hbt.hm.hm.cells
  obtain ⟨w6, hmu, hm6, hu6⟩ := mapUpdate_run und_mapII und_intK hbt.hm.hm.miss nd (.int .i64 0)
  rw [mput_miss] at hm6
  have hb6 := hbt.miss hm6 hu6
  have hwan : ∀ W, Below w6.heap.size w6 W → Calls Tryz.prog 19 #[v', .int .i64 nd] W fun e w' => ∃ tv, e = .returned tv ∧ w'.ownsRow W.heap.size 3 1 tv ks.length (intCells ks) ∧ Below W.heap.size W w' := by
    intro W hb'
    have := Wants_own (hb6.below hb').hm.hm.plan.rd (by have := (small_of_good hgp).1.parts; omega) nd
    rw [hks] at this
    exact this
  have hJ0 : (joinsR life nd (ks.drop 0) t' p' d').1 = J.1 ∧ E ++ J.2 = E ++ (joinsR life nd (ks.drop 0) t' p' d').2 := by rw [List.drop_zero, hJ]; exact ⟨rfl, rfl⟩
  obtain ⟨pv3, lv3, hv3, -, z1, z2, z3, z4, z5, -⟩ := hb6.hm.hm.cells
  subst hv3
  have H6 := Lib.hid (And.intro hb6 (And.intro hRw (And.intro hgp hJ0)))
  have HWN := Lib.hid hwan
  clear hbt hm6 hu6 hb6 hwan hJ0 hRw hgp hks hJ hv2
  go_wp2_with fail
  refine (HWN.out _ (Below.refl _ _)).mono ?_
  rintro _ w7 ⟨tv, rfl, hown7, hb7⟩
  obtain ⟨ta, tc, rfl, -⟩ := (Sl.of_owns hown7).shape
  have hB7 := H6.out.1.below hb7
  have ho7 := owns_mono hown7 (Nat.zero_le _)
  have H7 := Lib.hid (And.intro hB7 ho7)
  have KN0 : (ks.length : Int) ≤ 4 := by omega
  clear hB7 ho7 hown7 hb7 y5 z1 z2 z3 z4 z5 hmu
  go_wp2
  go_loopg [9, 57] ks.length (fun gk v9 v57 wt => ∃ (k : Nat) (a2 : Option Addr) (c2 : Nat) (E2 : List Pm) (L2 : TpL) (t2 : Tp) (v2 : Value) (p2 : Pl) (d2 : Bool), k ≤ ks.length ∧ gk = ks.length - k ∧ v57 = .int .i64 k ∧ v9 = .slice a2 E2.length c2 ∧ E2.length ≤ 1000 + k * 1000 ∧
    BtW w0 w K0 L wt hb b mb q L2 t2 v2 p2 (missP M nd 0) life d2 (.slice a2 E2.length c2) E2 ∧ wt.ownsRow 0 3 1 (.slice ta ks.length tc) ks.length (intCells ks) ∧ goodP p2 = true ∧
    ((joinsR life nd (ks.drop k) t2 p2 d2).1 = J.1 ∧ E ++ J.2 = E2 ++ (joinsR life nd (ks.drop k) t2 p2 d2).2))
  case atStart => exact ⟨0, a, c, E, L', t', _, p', d', Nat.zero_le _, rfl, rfl, rfl, by omega, H7.out.1, H7.out.2, H6.out.2.2.1, H6.out.2.2.2⟩
  case round =>
    obtain ⟨k, a2, c2, E2, L2, t2, v2, p2, d2, hk, rfl, rfl, rfl, hE2, hbt, hto, hgp2, hJJ⟩ := hrel
    by_cases hkt : k < ks.length
    · have j2 : (k : Int) < (ks.length : Int) := by omega
      have j3 : (0 : Int) ≤ (k : Int) := by omega
      obtain ⟨i, hi⟩ : ∃ i, ks[k] = i := ⟨_, rfl⟩
      obtain ⟨rest, hrest⟩ : ∃ rest, ks.drop (k + 1) = rest := ⟨_, rfl⟩
      rw [List.drop_eq_getElem_cons hkt, hi, hrest] at hJJ
      obtain ⟨bb, off, cap2, e2, -, -, -, hcc⟩ := Rd.at (Sl.of_owns hto).rd (by omega)
      obtain ⟨rfl, -⟩ : ta = some ⟨bb, off, none⟩ ∧ tc = cap2 := by simpa using e2
      have x0 : wr.cell? ⟨bb, off + k, none⟩ = some (.int .i64 i) := hcc _ _ (by rw [← hi]; exact intCells_get ks k hkt)
      have hdo := HDo_any hE hbt.hm ⟨5, nd, i, 0⟩
      have hgd := doR_good (t := t2) (life := life) (d := d2) (x := ⟨5, nd, i, 0⟩) hgp2
      obtain ⟨r1, r2, r3, cd, hdr⟩ : ∃ r1 r2 r3 cd, doR t2 p2 life d2 ⟨5, nd, i, 0⟩ = (r1, r2, r3, cd) := ⟨_, _, _, _, rfl⟩
      obtain ⟨E1, hde⟩ : ∃ E1, doE t2 p2 life d2 ⟨5, nd, i, 0⟩ = E1 := ⟨_, rfl⟩
      have hst : joinsR life nd (i :: rest) t2 p2 d2 = if cd ≠ 0 ∧ cd ≠ 21 ∧ cd ≠ 32 then ((r1, r2, r3, cd), []) else ((joinsR life nd rest r1 r2 r3).1, E1 ++ (joinsR life nd rest r1 r2 r3).2) := by
        rw [joinsR, hdr, hde]
      rw [hdr, hde] at hdo
      rw [hdr] at hgd
      simp only at hgd
      have HDO := Lib.hid hdo
      have HST := Lib.hid hst
      have HBT := Lib.hid (And.intro hbt (And.intro hto (And.intro hgd (And.intro hE2 (And.intro hJJ hrest)))))
      clear hdo hst hbt hto hgp2 hJJ hdr hde hcc e2 hi hgd hE2 hrest
      go_wp2_with fail
      refine HDO.out.mono ?_
      rintro _ w8 hd
      obtain ⟨a1, c1, L8, v8, rfl, hb8, hm8, hl8, -⟩ := HBT.out.1.did hd
      have hto8 : w8.ownsRow 0 3 1 (.slice (some ⟨bb, off, none⟩) ks.length tc) ks.length (intCells ks) := by
        obtain ⟨_, _, _, _, _, _, _, hu, _⟩ := hd
        exact owns_upd HBT.out.2.1 hu (fun g hg hf => HBT.out.1.hm.notInt g hf (owns_kind HBT.out.2.1 g hg))
      have H8 := Lib.hid (And.intro hb8 (And.intro hm8 (And.intro hl8 hto8)))
      have hws8 : w.heap.size ≤ w8.heap.size := hb8.upd.size
      clear hd hb8 hm8 hl8 hto8 x0
      by_cases hbad : cd ≠ 0 ∧ cd ≠ 21 ∧ cd ≠ 32
      · obtain ⟨n0, n1, n2⟩ := hbad
        have q0 : (cd != 0) = true := by simpa using n0
        have q1 : (cd != 21) = true := by simpa using n1
        have q2 : (cd != 32) = true := by simpa using n2
        go_wp2
        refine bodyPost_ret (v := .tuple #[.slice a2 E2.length c2, .int .i64 cd]) (by simp [results, Tryz.results69, go_sem]) rfl ?_
        have h1 := HBT.out.2.2.2.2.1
        rw [HST.out, if_pos ⟨n0, n1, n2⟩] at h1
        simp only [List.append_nil] at h1
        have h2 := H6.out.2.1
        rw [if_pos (by rw [← h1.1]; exact n0)] at h2
        rw [h2, h1.2]
        exact H8.out.1.moved (by rw [← h1.1])
      · have key : (cd = 0 ∨ cd = 21 ∨ cd = 32) := by
          by_cases c0 : cd = 0
          · exact .inl c0
          · by_cases c1 : cd = 21
            · exact .inr (.inl c1)
            · exact .inr (.inr (Classical.byContradiction fun c2 => hbad ⟨c0, c1, c2⟩))
        have h1 := HBT.out.2.2.2.2.1
        rw [HST.out, if_neg hbad] at h1
        have HJ := Lib.hid h1
        clear h1 hbad
        rcases key with rfl | rfl | rfl
        all_goals
          go_wp2_with (first | (at_builtin; refine wpList_append_ms rfl _ _ rfl w.heap.size (.slice a2 E2.length c2) E2 rfl H8.out.1.row (.slice a1 E1.length c1) E1 rfl H8.out.2.1.rd (by have := H8.out.2.2.1; have := HBT.out.2.2.2.1; omega) hws8 ?_; intro a9 c9 w9 hrow9 hu9 hblk9))
          have hB9 := H8.out.1.grew HWS.out hrow9 hu9 hblk9
          have hto9 := owns_upd H8.out.2.2.2 hu9 (H8.out.1.row.apart H8.out.2.2.2 (by decide))
          rw [← List.length_append] at hB9
          go_roundg (ks.length - (k + 1))
          case measure => omega
          case rel =>
            refine ⟨k + 1, a9, c9, E2 ++ E1, L8, r1, v8, r2, r3, by omega, rfl, by go_num, by rw [List.length_append], by rw [List.length_append]; have := H8.out.2.2.1; have := HBT.out.2.2.2.1; omega, hB9, hto9, HBT.out.2.2.1, ?_⟩
            rw [HBT.out.2.2.2.2.2]
            exact ⟨HJ.out.1, by rw [HJ.out.2, List.append_assoc]⟩
    · have j2 : ¬ (k : Int) < (ks.length : Int) := by omega
      rw [List.drop_of_length_le (by omega)] at hJJ
      simp only [joinsR, List.append_nil] at hJJ
      have h2 := H6.out.2.1
      rw [← hJJ.1] at h2
      rw [if_neg (by simp), hJJ.2] at h2
      simp only at h2
      have hfin : R = ((t2, p2, d2, 0), E2 ++ ownE p2 nd) := h2
      obtain ⟨pv9, lv9, hv9, -, -, -, y3, -⟩ := hbt.hm.hm.cells
      obtain ⟨pv8, lv8, e8, hpp, -⟩ := hbt.hm.hm.plan.rd
      subst hv9
      obtain ⟨rfl⟩ : pv8 = pv9 := by simp only [Value.agg.injEq, Array.mk.injEq, List.cons.injEq, and_true, true_and] at e8; exact e8.1.symm
      obtain ⟨pa, pc, rfl, -⟩ := hpp.cells
      have hp4 : (p2.parts.length : Int) ≤ 4 := (goodP_iff.1 hgp2).2.2.1.2
      have hE2' : E2.length ≤ 5000 := by omega
      have HBT := Lib.hid (And.intro hbt (And.intro hgp2 (And.intro hfin hE2')))
      clear hbt hgp2 hfin h2 hJJ hto hpp e8 hE2 hE2'
      go_wp2
      go_loopg [9, 91] p2.parts.length (fun gk v9 v91 wt => ∃ (k : Nat) (a3 : Option Addr) (c3 : Nat), k ≤ p2.parts.length ∧ gk = p2.parts.length - k ∧ v91 = .int .i64 k ∧ v9 = .slice a3 (E2 ++ (ownE p2 nd).take k).length c3 ∧
        BtW w0 w K0 L wt hb b mb q L2 t2 (.agg #[.int .i64 p2.nodes, .int .i64 p2.copies, .slice pa p2.parts.length pc, lv9]) p2 (missP M nd 0) life d2 (.slice a3 (E2 ++ (ownE p2 nd).take k).length c3) (E2 ++ (ownE p2 nd).take k))
      case atStart => exact ⟨0, a2, c2, Nat.zero_le _, rfl, rfl, by rw [List.take_zero, List.append_nil], by rw [List.take_zero, List.append_nil]; exact HBT.out.1⟩
      case round =>
        obtain ⟨k, a3, c3, hk, rfl, rfl, rfl, hbt⟩ := hrel
        by_cases hkt : k < p2.parts.length
        · have j4 : (k : Int) < (p2.parts.length : Int) := by omega
          have j5 : (0 : Int) ≤ (k : Int) := by omega
          have hpl := fun W (hb' : Below wr.heap.size wr W) => Hplace_any (hbt.below hb').hm.hm HBT.out.2.1 k hkt nd
          have hlen : (E2 ++ (ownE p2 nd).take k).length ≤ 5004 := by
            have := HBT.out.2.2.2
            rw [List.length_append, List.length_take]
            omega
          obtain ⟨F, hF⟩ : ∃ F, E2 ++ (ownE p2 nd).take k = F := ⟨_, rfl⟩
          have hF2 : E2 ++ (ownE p2 nd).take (k + 1) = F ++ [⟨(k : Int), (atP p2.parts (k : Int)).epoch, (atP p2.parts (k : Int)).learner, nd, p2.lives.length⟩] := by rw [ownE_succ p2 nd k hkt, ← List.append_assoc, hF]
          rw [hF] at hbt hlen ⊢
          have HPL := Lib.hid hpl
          have HB := Lib.hid (And.intro hbt (And.intro hlen hF2))
          clear hpl hbt hlen hF hF2
          go_wp2_with fail
          refine (HPL.out _ (Below.refl _ _)).mono ?_
          rintro _ w8 ⟨ca8, la8, cl8, cc8, lc8, rfl, hb8⟩
          have hnew : MsgRel ⟨(k : Int), (atP p2.parts (k : Int)).epoch, (atP p2.parts (k : Int)).learner, nd, p2.lives.length⟩ (placeM (k : Int) p2.parts[k].epoch p2.parts[k].learner nd (.slice ca8 cl8 cc8) (.slice la8 p2.lives.length lc8)) :=
            ⟨ca8, la8, cl8, cc8, lc8, by simp only [atP_lt hkt]⟩
          have hrd : ∃ ms, Rd (w8.alloc (.cells (placeM (k : Int) p2.parts[k].epoch p2.parts[k].learner nd (.slice ca8 cl8 cc8) (.slice la8 p2.lives.length lc8)).toArray 47)) 38 (.slice (some ⟨w8.heap.size, 0, none⟩) 1 1) [(⟨(k : Int), (atP p2.parts (k : Int)).epoch, (atP p2.parts (k : Int)).learner, nd, p2.lives.length⟩ : Pm)].length ms ∧ (∀ u ∈ ms, u.oneCell' = true) ∧ MsRel [⟨(k : Int), (atP p2.parts (k : Int)).epoch, (atP p2.parts (k : Int)).learner, nd, p2.lives.length⟩] ms :=
            ⟨_, rd_new_msg w8 _ rfl _, placeM_one _ _ _ _ rfl rfl, by have := MsRel.nil.snoc hnew; simpa using this⟩
          have hB8 := (HB.out.1.below hb8).below (below_alloc w8 (.cells (placeM (k : Int) p2.parts[k].epoch p2.parts[k].learner nd (.slice ca8 cl8 cc8) (.slice la8 p2.lives.length lc8)).toArray 47))
          have H8 := Lib.hid (And.intro hB8 hrd)
          have hws8 := hB8.upd.size
          clear hb8 hnew hrd hB8
          generalize p2.parts[k].epoch = ep at *
          generalize p2.parts[k].learner = le at *
          go_wp2_with (first | (at_builtin; refine wpList_append_ms rfl _ _ rfl w.heap.size (.slice a3 F.length c3) F rfl H8.out.1.row (.slice (some ⟨w8.heap.size, 0, none⟩) 1 1) [⟨(k : Int), (atP p2.parts (k : Int)).epoch, (atP p2.parts (k : Int)).learner, nd, p2.lives.length⟩] rfl H8.out.2 (by have := HB.out.2.1; simp only [List.length_cons, List.length_nil]; omega) hws8 ?_; intro a9 c9 w9 hrow9 hu9 hblk9))
          have hB9 := H8.out.1.grew HWS.out hrow9 hu9 hblk9
          go_roundg (p2.parts.length - (k + 1))
          case measure => omega
          case rel =>
            refine ⟨k + 1, a9, c9, by omega, rfl, by go_num, ?_, ?_⟩
            · rw [HB.out.2.2, List.length_append]; rfl
            · rw [HB.out.2.2, List.length_append]; exact hB9
        · have j4 : ¬ (k : Int) < (p2.parts.length : Int) := by omega
          have hall : (ownE p2 nd).take k = ownE p2 nd := List.take_of_length_le (by simp [ownE]; omega)
          rw [hall] at hbt ⊢
          have HB := Lib.hid hbt
          clear hbt hall
          go_wp2
          refine bodyPost_ret (v := .tuple #[.slice a3 (E2 ++ ownE p2 nd).length c3, .int .i64 0]) (by simp [results, Tryz.results69, go_sem]) rfl ?_
          rw [HBT.out.2.2.1]
          exact HB.out.moved rfl
end Go.Proofs.YtcpaaleogmiamaaGreatDoor
