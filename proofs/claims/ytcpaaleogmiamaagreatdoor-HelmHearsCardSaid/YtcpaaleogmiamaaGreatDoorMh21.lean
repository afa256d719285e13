/- The walk of plan.dead. -/
import Derived.Test.YtcpaaleogmiamaaGreatDoorMh11
import Derived.Test.YtcpaaleogmiamaaGreatDoorMh20
import Derived.Deep.CutBlock
namespace Go.Proofs.YtcpaaleogmiamaaGreatDoor
open Go.RowKit

def deadK (n : Int) (P : List Pt) (k : Nat) : List Pt := (P.take k).map (deadX n) ++ P.drop k

theorem deadK_length (n : Int) (P : List Pt) (k : Nat) : (deadK n P k).length = P.length := by simp [deadK]; omega
theorem deadK_get (n : Int) (P : List Pt) (k : Nat) (hk : k < P.length) (h' : k < (deadK n P k).length) : (deadK n P k)[k] = P[k] := by
  simp only [deadK]
  rw [List.getElem_append_right (by simp; omega)]
  simp [Nat.min_eq_left (Nat.le_of_lt hk)]
theorem deadK_set (n : Int) (P : List Pt) (k : Nat) (hk : k < P.length) : (deadK n P k).set k (deadX n P[k]) = deadK n P (k + 1) := by
  simp only [deadK]
  rw [List.set_append_right _ _ (by simp; omega), List.take_succ_eq_append_getElem hk]
  have e : k - ((P.take k).map (deadX n)).length = 0 := by simp; omega
  rw [e, List.drop_eq_getElem_cons hk]
  simp only [List.set_cons_zero, List.map_append, List.map_cons, List.map_nil, List.append_assoc, List.cons_append, List.nil_append]
theorem deadK_same (n : Int) (P : List Pt) (k : Nat) (hk : k < P.length) (h : deadX n P[k] = P[k]) : deadK n P (k + 1) = deadK n P k := by
  rw [← deadK_set n P k hk, h]
  have := deadK_get n P k hk (by rw [deadK_length]; exact hk)
  conv => lhs; rw [← this]
  exact List.set_getElem_self _

theorem PlanOwn.ptr {w : World} {N pb : Nat} {p : Pl} {pa : Option Addr} {pc : Nat} {la : Option Addr} {lc : Nat} {m : List (Value × Pt)} (h : PlanOwn w N pb p pa pc la lc m) (h0 : 0 < p.parts.length) : ∃ g, pa = some ⟨g, 0, none⟩ := by
  rcases h.parts.own.2 with ⟨h1, h2⟩ | ⟨g, cap, cur, h1, -⟩
  · have := h.len; omega
  · simp only [Value.slice.injEq] at h1; exact ⟨g, h1.1⟩

/-- What stands in the cells of a place. -/
theorem PlanOwn.place {w : World} {N pb g : Nat} {p : Pl} {pc : Nat} {la : Option Addr} {lc : Nat} {m : List (Value × Pt)} (h : PlanOwn w N pb p (some ⟨g, 0, none⟩) pc la lc m) (j : Nat) (hj : j < p.parts.length) :
    ∃ hjm : j < m.length, ∃ ca cc, m[j].1 = .slice ca p.parts[j].chain.length cc ∧ w.cell? ⟨g, j * 3, none⟩ = some (.int .i64 p.parts[j].epoch) ∧ w.cell? ⟨g, j * 3 + 1, none⟩ = some (.slice ca p.parts[j].chain.length cc) ∧
      w.cell? ⟨g, j * 3 + 2, none⟩ = some (.int .i64 p.parts[j].learner) ∧ (∀ o, w.frozen? ⟨g, o, none⟩ = false) ∧ w.ownsRow N 3 1 (.slice ca p.parts[j].chain.length cc) p.parts[j].chain.length (intCells p.parts[j].chain) ∧ g ≠ pb ∧ g < w.heap.size ∧ N ≤ g := by
  have hjm : j < m.length := by rw [h.len]; exact hj
  have e := OwnK.len_get h.eq hjm hj
  have hc := h.parts.chain j hjm hjm
  rw [e] at hc
  obtain ⟨ca, cc, e1, -⟩ := (Sl.of_owns hc).shape
  have hg := partCells_get m j hjm
  rw [e] at hg
  obtain ⟨cp, hgp⟩ := owns_block h.parts.own g rfl
  have hl := partCells_length m
  have hown := h.parts.own
  rw [h.len] at hown
  rw [h.len] at hl
  have hlo := owns_lt h.parts.own g rfl
  refine ⟨hjm, ca, cc, e1, ?_, ?_, ?_, fun o => hown.frozenAt o, by rw [← e1]; exact hc, fun e => block_ne hgp h.blk (by decide) e, hlo.2, hlo.1⟩
  · rw [hown.cellAt _ (by omega), hg.1]
  · rw [hown.cellAt _ (by omega), hg.2.1, e1]
  · rw [hown.cellAt _ (by omega), hg.2.2]

theorem PlanOwn.blks {w : World} {N pb : Nat} {p : Pl} {pa : Option Addr} {pc : Nat} {la : Option Addr} {lc : Nat} {m : List (Value × Pt)} (h : PlanOwn w N pb p pa pc la lc m) : Blks m w.heap.size := by
  intro x hx k hk
  obtain ⟨i, hi, rfl⟩ := List.mem_iff_getElem.1 hx
  exact (owns_lt (h.parts.chain i hi hi) k hk).2

def Dead (w : World) (N pb : Nat) (p : Pl) (n : Int) (e : Ending) (w' : World) : Prop :=
  ∃ (pa la : Option Addr) (pc lc : Nat) (m : List (Value × Pt)) (tv : Value), e = .returned tv ∧ PlanOwn w' N pb ⟨p.nodes, p.copies, p.parts.map (deadX n), p.lives⟩ pa pc la lc m ∧
    w'.ownsRow w.heap.size 3 1 tv (placesB (deadB n) p.parts).length (intCells (placesB (deadB n) p.parts)) ∧ Below N w w'

set_option maxRecDepth 100000 in
set_option maxHeartbeats 4000000 in
theorem dead_any {w : World} {N pb : Nat} {p : Pl} {pa : Option Addr} {pc : Nat} {la : Option Addr} {lc : Nat} {m : List (Value × Pt)} (h : PlanOwn w N pb p pa pc la lc m) (hs : SmallP p) (n : Int) :
    Calls Tryz.prog 140 #[.pointer (some ⟨pb, 0, none⟩), .int .i64 n] w (Dead w N pb p n) := by
  obtain ⟨i1, ki, kz0, kz1, kz2⟩ := info_parts info_Int
  unfold Dead
  have hlow := h.low
  have hlt0 := h.lt
  have hpl := hs.parts
  have hch := hs.chain
  have HCH := Lib.hid hch
  have H0 := Lib.hid h
  have c2 := cells_of h.blk 2 _ rfl
  clear h hch
  obtain ⟨f, hf⟩ : ∃ f : Pt → Bool, f = deadB n := ⟨_, rfl⟩
  have HF := Lib.hid hf
  clear hf
  go_enter Tryz.func140, Tryz.ntmps140
  go_wp2
  go_loopg [4, 5, 6, 7, 13] p.parts.length (fun gk out _ _ _ i wr => ∃ (k : Nat) (m : List (Value × Pt)), k ≤ p.parts.length ∧ gk = p.parts.length - k ∧ i = .int .i64 k ∧ PlanOwn wr N pb ⟨p.nodes, p.copies, deadK n p.parts k, p.lives⟩ pa pc la lc m ∧ Blks m w.heap.size ∧
    wr.ownsRow w.heap.size 3 1 out (placesB f (p.parts.take k)).length (intCells (placesB f (p.parts.take k))) ∧ Below N w wr ∧ w.heap.size ≤ wr.heap.size)
  case atStart => exact ⟨0, m, Nat.zero_le _, rfl, rfl, by simpa [deadK] using H0.out, H0.out.blks, World.ownsRow_nil _ _ _ _, Below.refl _ _, Nat.le_refl _⟩
  case round =>
    clear c2 H0
    obtain ⟨k, m, hk, rfl, rfl, hown, hbk, htn, hbel, hsz⟩ := hrel
    by_cases hlt : k < p.parts.length
    · have hl0 := deadK_length n p.parts k
      have hkl : k < (deadK n p.parts k).length := by omega
      obtain ⟨g, rfl⟩ := hown.ptr (by simp only; omega)
      obtain ⟨hkm, ca, cc, em, e0, e1, e2, fg, hcn, hgp, hgl, hgN⟩ := hown.place k hkl
      have eP := deadK_get n p.parts k hlt hkl
      simp only [eP] at em e0 e1 e2 hcn
      have hrd := IntsRd.of_owns hcn
      have hc2 : wr.cell? ⟨pb, 2, none⟩ = some (.slice (some ⟨g, 0, none⟩) p.parts.length pc) := by
        have := cells_of hown.blk 2 _ rfl
        rw [hl0] at this
        exact this
      have hch := HCH.out _ (List.getElem_mem hlt)
      have hno : f p.parts[k] = false → placesB f (p.parts.take (k + 1)) = placesB f (p.parts.take k) := fun h => by rw [placesB_succ f p.parts k hlt, h]; simp
      have hye : f p.parts[k] = true → placesB f (p.parts.take (k + 1)) = placesB f (p.parts.take k) ++ [(k : Int)] := fun h => by rw [placesB_succ f p.parts k hlt, h]; simp
      have hfy : f p.parts[k] = (decide (p.parts[k].learner = n) || (decide (0 ≤ idx p.parts[k].chain n) && decide (1 < p.parts[k].chain.length))) := by rw [HF.out]; rfl
      have hpl2 := placesB_length f (p.parts.take k)
      have hpl3 : (placesB f (p.parts.take k)).length ≤ 1000 := by simp at hpl2; omega
      have hkk : (k : Int) < (p.parts.length : Int) := by omega
      have hk0 : (0 : Int) ≤ (k : Int) := by omega
      have hset := deadK_set n p.parts k hlt
      have hsame := deadK_same n p.parts k hlt
      have HSET := Lib.hid hset
      have HSAME := Lib.hid hsame
      have HNO := Lib.hid hno
      have HYE := Lib.hid hye
      have HFY := Lib.hid hfy
      have HRD := Lib.hid hrd
      have HX := Lib.hid (And.intro hown (And.intro hbk (And.intro htn (And.intro hbel (And.intro hcn (And.intro em eP))))))
      clear hset hsame hno hye hfy hown hbk htn hbel hcn em hrd hpl2 eP
      have fg0 := fg (k * 3)
      have fg1 := fg (k * 3 + 1)
      have fg2 := fg (k * 3 + 2)
      have HL := Lib.hid (And.intro hkl hl0)
      clear fg hl0
      by_cases hle : p.parts[k].learner = n
      · have hs1 : ∃ m', PlanOwn (wr.setCell ⟨g, k * 3 + 2, none⟩ (.int .i64 0)) N pb ⟨p.nodes, p.copies, deadK n p.parts (k + 1), p.lives⟩ (some ⟨g, 0, none⟩) pc la lc m' ∧ Blks m' w.heap.size := by
          obtain ⟨m', h1, h2⟩ := HX.out.1.setLearner k HL.out.1 0
          refine ⟨m', ?_, h2 _ HX.out.2.1⟩
          simp only [HX.out.2.2.2.2.2.2] at h1
          rw [← HSET.out]
          have e : deadX n p.parts[k] = ⟨p.parts[k].epoch, p.parts[k].chain, 0⟩ := by simp [deadX, hle]
          rw [e]; exact h1
        have HS := Lib.hid hs1
        clear hs1
        have hy := HYE.out (by rw [HFY.out]; simp [hle])
        have HY := Lib.hid hy
        clear hy
        go_upto_region 10 with (first | (go_at_call 135; refine (Index_any HRD.out n).mono ?_; rintro _ w1 ⟨rfl, rfl⟩))
        obtain ⟨m', hz1, hz2⟩ := HS.out
        have hs3 := upd_set1 w1 g (k * 3 + 2) (.int .i64 0)
        have hz3 := owns_upd HX.out.2.2.1 hs3 (fun b hb e => by obtain ⟨c, hc⟩ := owns_block HX.out.2.2.1 b hb; obtain ⟨c', hc'⟩ := owns_block HX.out.1.parts.own g rfl; exact block_ne hc hc' (by decide) e)
        have hz4 := HX.out.2.2.2.1.trans (hs3.toBelow (N := N) (by omega) (fun b e => by omega))
        have hz5 : w.heap.size ≤ (w1.setCell ⟨g, k * 3 + 2, none⟩ (.int .i64 0)).heap.size := by have := hs3.size; omega
        have HZ := Lib.hid (And.intro hz1 (And.intro hz2 (And.intro hz3 hz4)))
        clear hz1 hz2 hz3 hz4 hs3 HS HX HRD e0 e1 e2 hc2 fg0 fg1 fg2
        generalize w1.setCell ⟨g, k * 3 + 2, none⟩ (.int .i64 0) = Z at *
        go_wp2_with (first | (at_builtin; refine wpList_append_lies _ rfl _ _ 22 rfl w.heap.size 3 i1 _ 1 8 und_Ints ki kz0 kz1 kz2 rfl (by decide) u4 (placesB f (p.parts.take k)).length (intCells (placesB f (p.parts.take k))) rfl (HZ.out.2.2.1.alloc _) ⟨Z.heap.size, 0, none⟩ 1 1 [.int .i64 k] rfl rfl (World.news_of_block (cs := #[.int .i64 k]) (t := 3) (fr := (0, 0)) (heap_alloc_new Z _)) (by simp [Value.oneCell']) (by decide) ?_ ?_ ?_ _ rfl ?_; (unfold maxLen; omega); (omega); (simp only [World.size_alloc]; omega); intro g7 cap7 w8 hown8 hgrow8 hat8 hlt8; have H8 := Lib.hid (And.intro hown8 hgrow8); clear hown8 hgrow8 hat8 hlt8))
        go_roundg (p.parts.length - (k + 1))
        case measure => omega
        case rel =>
          have hu8 := (upd_alloc (fun b => some b = u4.ownBlock) _ (.cells #[.int .i64 (k : Int)] 3)).trans (upd_grown H8.out.2)
          have hlo := fun g hg => (owns_lt HZ.out.2.2.1 g hg).1
          refine ⟨k + 1, m', by omega, rfl, by go_num, ?_, HZ.out.2.1, ?_, ?_, ?_⟩
          · exact HZ.out.1.high HZ.out.2.1 hlt0 hu8 (fun b e => ⟨hlo _ e.symm, owns_block HZ.out.2.2.1 b e.symm⟩)
          · rw [HY.out]
            have := H8.out.1
            simpa [intCells] using this
          · exact HZ.out.2.2.2.trans (hu8.toBelow (by omega) (fun b e => by have := hlo _ e.symm; omega))
          · have := hu8.size; omega
      · by_cases hat : 0 ≤ idx p.parts[k].chain n ∧ 1 < p.parts[k].chain.length
        · obtain ⟨hat1, hat2⟩ := hat
          have he : deadX n p.parts[k] = ⟨p.parts[k].epoch, p.parts[k].chain.eraseIdx (idx p.parts[k].chain n).toNat, p.parts[k].learner⟩ := by simp [deadX, hle, hat1, hat2]
          have hy := HYE.out (by rw [HFY.out]; simp [hat1, hat2])
          have HY := Lib.hid hy
          obtain ⟨j, hj, ej⟩ : ∃ j : Nat, j < p.parts[k].chain.length ∧ idx p.parts[k].chain n = (j : Int) := by
            obtain ⟨i, hi, e, -⟩ := idx_at hat1
            exact ⟨i, hi, e⟩
          rw [ej] at he
          simp only [Int.toNat_natCast] at he
          have hca : ∃ gc, ca = some ⟨gc, 0, none⟩ := by
            rcases HX.out.2.2.2.2.1.2 with ⟨h1, h2⟩ | ⟨g, cap, cur, h1, -⟩
            · omega
            · simp only [Value.slice.injEq] at h1; exact ⟨g, h1.1⟩
          obtain ⟨gc, rfl⟩ := hca
          have hel : (p.parts[k].chain.eraseIdx j).length = p.parts[k].chain.length - 1 := by rw [List.length_eraseIdx, if_pos hj]
          have hdel : ∀ W, Below wr.heap.size wr W → Calls Tryz.prog 179 #[.slice (some ⟨gc, 0, none⟩) p.parts[k].chain.length cc, .int .i64 j, .int .i64 ((j : Int) + 1)] W fun e w5 =>
              e = .returned (.slice (some ⟨gc, 0, none⟩) (p.parts[k].chain.length - 1) cc) ∧ w5.frozen? ⟨g, k * 3 + 1, none⟩ = false ∧ w5.cell? ⟨g, k * 3 + 1, none⟩ = some (.slice (some ⟨gc, 0, none⟩) p.parts[k].chain.length cc) ∧
                (∃ m', PlanOwn (w5.setCell ⟨g, k * 3 + 1, none⟩ (.slice (some ⟨gc, 0, none⟩) (p.parts[k].chain.length - 1) cc)) N pb ⟨p.nodes, p.copies, deadK n p.parts (k + 1), p.lives⟩ (some ⟨g, 0, none⟩) pc la lc m' ∧ Blks m' w.heap.size) ∧
                (w5.setCell ⟨g, k * 3 + 1, none⟩ (.slice (some ⟨gc, 0, none⟩) (p.parts[k].chain.length - 1) cc)).ownsRow w.heap.size 3 1 u4 (placesB f (p.parts.take k)).length (intCells (placesB f (p.parts.take k))) ∧
                Below N w (w5.setCell ⟨g, k * 3 + 1, none⟩ (.slice (some ⟨gc, 0, none⟩) (p.parts[k].chain.length - 1) cc)) ∧ w.heap.size ≤ w5.heap.size := by
            intro W hb
            have hbs := hb.size
            have hW := HX.out.1.below hb
            have hcW := owns_upd HX.out.2.2.2.2.1 (Upd.of_below (F := fun _ => False) hb) (fun _ _ h => h)
            have hdl := Delete_own hcW j hj
            rw [show ((j + 1 : Nat) : Int) = (j : Int) + 1 by omega] at hdl
            refine hdl.mono ?_
            rintro e w5 ⟨rfl, ho5, hu5⟩
            have hgc := HX.out.2.1 _ (List.getElem_mem hkm) gc (by rw [HX.out.2.2.2.2.2.1]; rfl)
            have hgcN := (owns_lt HX.out.2.2.2.2.1 gc rfl).1
            obtain ⟨cp, hcp⟩ := owns_block hW.parts.own g rfl
            obtain ⟨cq, hcq⟩ := owns_block hcW gc rfl
            have hgg := block_ne hcp hcq (by decide)
            have hgW : g < W.heap.size := by omega
            have hcp5 := (hu5.block g hgW hgg).trans hcp
            have ht5 := owns_upd (owns_upd HX.out.2.2.1 (Upd.of_below (F := fun _ => False) hb) (fun _ _ h => h)) hu5 (fun b hb' e => by have := (owns_lt HX.out.2.2.1 b hb').1; omega)
            refine ⟨rfl, frozen_of hcp5, upd_some hu5 (below_some hb e1 hgl) hgg, ?_, ?_, ?_, by have := hu5.size; omega⟩
            · obtain ⟨m', h1, h2⟩ := hW.newChain k HL.out.1 hkm hu5 (fun b e => by rw [HX.out.2.2.2.2.2.1, e]; rfl) (cv := .slice (some ⟨gc, 0, none⟩) (p.parts[k].chain.length - 1) cc) (l := p.parts[k].chain.eraseIdx j) (by rw [hel]; exact ho5) (fun b e => .inl (by rw [HX.out.2.2.2.2.2.1]; exact e))
              refine ⟨m', ?_, h2 _ HX.out.2.1 (fun b e => by cases e; exact hgc)⟩
              simp only [HX.out.2.2.2.2.2.2] at h1
              rw [← HSET.out, he]
              exact h1
            · exact owns_upd ht5 (upd_set1 w5 g (k * 3 + 1) _) (fun b hb' e => by obtain ⟨c, hc⟩ := owns_block ht5 b hb'; exact block_ne hc hcp5 (by decide) e)
            · exact (HX.out.2.2.2.1.trans (hb.mono (by omega))).trans ((hu5.toBelow (by omega) (fun b e => by omega)).trans ((upd_set1 w5 g (k * 3 + 1) _).toBelow (by have := hu5.size; omega) (fun b e => by omega)))
          have HDEL := Lib.hid hdel
          have hwrap : IntKind.i64.wrap ((j : Int) + 1) = ((j + 1 : Nat) : Int) := by rw [IntWalk.i64_in _ (by omega)]; omega
          have hlen1 : (1 : Int) < (p.parts[k].chain.length : Int) := by omega
          have hj0 : (0 : Int) ≤ (j : Int) := by omega
          clear hdel hy he hel hat1 hat2
          go_upto_block 2 with (first | (go_at_call 135; refine (Index_any HRD.out n).mono ?_; rintro _ w1 ⟨rfl, rfl⟩; rw [ej]))
          clear hwrap
          go_cut [] from 28 to 59 (fun wd => ∃ m', PlanOwn wd N pb ⟨p.nodes, p.copies, deadK n p.parts (k + 1), p.lives⟩ (some ⟨g, 0, none⟩) pc la lc m' ∧ Blks m' w.heap.size ∧ wd.ownsRow w.heap.size 3 1 u4 (placesB f (p.parts.take k)).length (intCells (placesB f (p.parts.take k))) ∧
            Below N w wd ∧ w.heap.size ≤ wd.heap.size)
          case first =>
            go_wp2_with (first | (go_at_call 179; refine (HDEL.out _ (Below.refl _ _)).mono ?_; rintro _ w5 ⟨rfl, f5, c5, hs5, ht5, hb5, hz5⟩))
            go_meet
            obtain ⟨m', hz1, hz2⟩ := hs5
            exact ⟨m', hz1, hz2, ht5, hb5, by have := (upd_set1 w5 g (k * 3 + 1) (.slice (some ⟨gc, 0, none⟩) (p.parts[k].chain.length - 1) cc)).size; omega⟩
          case rest =>
          obtain ⟨m', hz1, hz2, ht5, hb5, hz6⟩ := hcut
          have HZ := Lib.hid (And.intro hz1 (And.intro hz2 (And.intro ht5 hb5)))
          clear hz1 hz2 ht5 hb5 HDEL HX HRD e0 e1 e2 hc2 fg0 fg1 fg2
          obtain ⟨Z, hZ⟩ : ∃ Z, Z = wc := ⟨_, rfl⟩
          subst hZ
          go_wp2_with (first | (at_builtin; refine wpList_append_lies _ rfl _ _ 22 rfl w.heap.size 3 i1 _ 1 8 und_Ints ki kz0 kz1 kz2 rfl (by decide) u4 (placesB f (p.parts.take k)).length (intCells (placesB f (p.parts.take k))) rfl (HZ.out.2.2.1.alloc _) ⟨Z.heap.size, 0, none⟩ 1 1 [.int .i64 k] rfl rfl (World.news_of_block (cs := #[.int .i64 k]) (t := 3) (fr := (0, 0)) (heap_alloc_new Z _)) (by simp [Value.oneCell']) (by decide) ?_ ?_ ?_ _ rfl ?_; (unfold maxLen; omega); (omega); (simp only [World.size_alloc]; omega); intro g7 cap7 w8 hown8 hgrow8 hat8 hlt8; have H8 := Lib.hid (And.intro hown8 hgrow8); clear hown8 hgrow8 hat8 hlt8))
          go_roundg (p.parts.length - (k + 1))
          case measure => omega
          case rel =>
            have hu8 := (upd_alloc (fun b => some b = u4.ownBlock) _ (.cells #[.int .i64 (k : Int)] 3)).trans (upd_grown H8.out.2)
            have hlo := fun g hg => (owns_lt HZ.out.2.2.1 g hg).1
            refine ⟨k + 1, m', by omega, rfl, by go_num, ?_, HZ.out.2.1, ?_, ?_, ?_⟩
            · exact HZ.out.1.high HZ.out.2.1 hlt0 hu8 (fun b e => ⟨hlo _ e.symm, owns_block HZ.out.2.2.1 b e.symm⟩)
            · rw [HY.out]
              have := H8.out.1
              simpa [intCells] using this
            · exact HZ.out.2.2.2.trans (hu8.toBelow (by omega) (fun b e => by have := hlo _ e.symm; omega))
            · have := hu8.size; omega
        · have hf : f p.parts[k] = false := by
            rw [HFY.out]
            by_cases h1 : 0 ≤ idx p.parts[k].chain n
            · have h2 : ¬ 1 < p.parts[k].chain.length := fun h2 => hat ⟨h1, h2⟩
              simp [hle, h2]
            · simp [hle, h1]
          have he := HSAME.out (by simp [deadX, hle, hat])
          have HH := Lib.hid (And.intro (HNO.out hf) he)
          clear hf he
          by_cases h1 : 0 ≤ idx p.parts[k].chain n
          · have h2 : ¬ (1 : Int) < (p.parts[k].chain.length : Int) := fun h2 => hat ⟨h1, by omega⟩
            go_wp2_with (first | (go_at_call 135; refine (Index_any HRD.out n).mono ?_; rintro _ w1 ⟨rfl, rfl⟩))
            go_roundg (p.parts.length - (k + 1))
            case measure => omega
            case rel => exact ⟨k + 1, m, by omega, rfl, by go_num, by rw [HH.out.2]; exact HX.out.1, HX.out.2.1, by rw [HH.out.1]; exact HX.out.2.2.1, HX.out.2.2.2.1, hsz⟩
          · go_wp2_with (first | (go_at_call 135; refine (Index_any HRD.out n).mono ?_; rintro _ w1 ⟨rfl, rfl⟩))
            go_roundg (p.parts.length - (k + 1))
            case measure => omega
            case rel => exact ⟨k + 1, m, by omega, rfl, by go_num, by rw [HH.out.2]; exact HX.out.1, HX.out.2.1, by rw [HH.out.1]; exact HX.out.2.2.1, HX.out.2.2.2.1, hsz⟩
    · have i1' : ¬ (k : Int) < (p.parts.length : Int) := by omega
      have hkl : p.parts.take k = p.parts := List.take_of_length_le (by omega)
      have hkd : deadK n p.parts k = p.parts.map (deadX n) := by rw [deadK, hkl, List.drop_eq_nil_of_le (by omega)]; simp
      rw [hkl, HF.out] at htn
      rw [hkd] at hown
      have HO := Lib.hid (And.intro htn (And.intro hown (And.intro hbel hsz)))
      clear htn hown hkl hkd hbel
      go_wp2
      go_ret
      exact ⟨_, _, _, _, _, _, rfl, HO.out.2.1, HO.out.1, HO.out.2.2.1⟩
end Go.Proofs.YtcpaaleogmiamaaGreatDoor
