/- The walk of helm.Hear at a node's beat; a master that is none. -/
/- What awake asks of a master, in plain words. -/
/- The walk of helm.Plan. (Printed by gen_hmq.py.) -/
import Derived.Test.YtcpaaleogmiamaaGreatDoorMh39
import Derived.Test.YtcpaaleogmiamaaGreatDoorMh32
namespace Go.Proofs.YtcpaaleogmiamaaGreatDoor
open Go.RowKit

/-- A node's beat. -/
abbrev beatM (nd lf : Int) : Array Value := #[.int .i64 3, .int .i64 nd, .int .i64 0, .int .i64 0, .int .i64 0, .int .i64 0, .int .i64 0, .int .i64 lf, .int .i64 0, .slice none 0 0, .int .i64 0, .slice none 0 0,
  .int .i64 0, .int .i64 0, .int .i64 0, .int .i64 0, .int .i64 0, .slice none 0 0, .slice none 0 0, .int .i64 0, .int .i64 0, .int .i64 0, .int .i64 0, .int .i64 0, .int .i64 0, .int .i64 0, .int .i64 0, .string ⟨#[]⟩, .string ⟨#[]⟩, .slice none 0 0,
  .int .i64 0, .int .i64 0, .int .i64 0, .int .i64 0, .int .i64 0, .int .i64 0, .slice none 0 0, .slice none 0 0]

theorem MovedTo.since {w0 w w1 w' : World} {K0 : (Nat → Prop) → Prop} {hb b mb q : Nat} {L : TpL} {M : List (Int × Int)} {life : Int} {R : Tp × Pl × Bool × Int} {E : List Pm} {e : Ending} (hb' : Below w.heap.size w w1) (h : MovedTo w0 w1 hb b mb q L K0 M life R E e w') : MovedTo w0 w hb b mb q L K0 M life R E e w' := by
  obtain ⟨a, c, L', v', he, h1, h2, h3, h4, h5⟩ := h
  have := hb'.size
  exact ⟨a, c, L', v', he, h1, h2.mono hb'.size, (Upd.of_below hb').trans h3, fun k hk => (h4 k hk).imp id (fun e => by omega), h5⟩

set_option maxRecDepth 100000 in
set_option maxHeartbeats 4000000 in
theorem HHear_beat {w0 w : World} {K0 : (Nat → Prop) → Prop} {hb b mb q : Nat} {L : TpL} {t : Tp} {v : Value} {p : Pl} {M : List (Int × Int)} {life : Int} {dead : Bool} (hE : Env w0) (h : HmW w0 w hb b mb q L t v p M life dead) (hK : KeepAt K0 w hb b mb q L v p) (hr : readyB t life dead = false) (hg : goodP p = true) (nd lf : Int) (hn : 1 ≤ nd ∧ nd ≤ p.nodes) (hl : 1 ≤ lf ∧ lf ≤ 1073741824) (hk : lifeP p.lives nd ≤ lf)
    (hd : lifeP p.lives nd < lf → (doR t p life dead ⟨1, nd, 0, lf⟩).2.2.2 = 0 ∨ (doR t p life dead ⟨1, nd, 0, lf⟩).2.2.2 = 32) :
    Calls Tryz.prog 16 #[.pointer (some ⟨hb, 0, none⟩), .agg (beatM nd lf)] w (MovedTo w0 w hb b mb q L K0 (missP M nd 0) life (beatR life nd lf t p dead).1 (beatR life nd lf t p dead).2) := by
  obtain ⟨R, hR⟩ : ∃ R, beatR life nd lf t p dead = R := ⟨_, rfl⟩
  have hrd := fun W (hb' : Below w.heap.size w W) => Hready_any (h.below hb').hm
  rw [hr] at hrd
  simp only [Bool.false_eq_true, if_false] at hrd
  have hnd := fun W (hb' : Below w.heap.size w W) => HisNode_any (h.below hb').hm nd
  rw [show inB nd 1 p.nodes = true from inB_iff.2 hn] at hnd
  have hbt := fun W (hb' : Below w.heap.size w W) => Hbeat_any hE (h.below hb') (hK.below hb') hg nd lf hk hd
  rw [hR] at hbt ⊢
  have HRD := Lib.hid hrd
  have HND := Lib.hid hnd
  have HBT := Lib.hid hbt
  obtain ⟨l1, l2⟩ := hl
  clear hrd hnd hbt hR hr hg hn hk hd h hK
  go_enter Tryz.func16, Tryz.ntmps16
  go_wp2_with fail
  refine (HRD.out _ (below_alloc _ _)).mono ?_
  rintro _ w1 ⟨rfl, hb1⟩
  have hx : w1.heap[w.heap.size]? = some (.cells (beatM nd lf) 47 (0, 0)) := (hb1.block _ (by simp)).trans (heap_alloc_new _ _)
  have hb2 := below_trans (below_alloc w _) hb1
  have x0 : w1.cell? ⟨w.heap.size, 0, none⟩ = some (.int .i64 3) := cells_of hx 0 _ rfl
  have x1 : w1.cell? ⟨w.heap.size, 1, none⟩ = some (.int .i64 nd) := cells_of hx 1 _ rfl
  have x7 : w1.cell? ⟨w.heap.size, 7, none⟩ = some (.int .i64 lf) := cells_of hx 7 _ rfl
  have HB2 := Lib.hid hb2
  clear hx hb1 hb2
  go_wp2_with (first | (go_at_call 68; refine (HND.out _ HB2.out).mono ?_; rintro _ w2 ⟨rfl, rfl⟩))
  refine (HBT.out _ HB2.out).mono ?_
  rintro _ w3 hm
  obtain ⟨a, c, L', v', rfl, h1, h2, h3, h4⟩ := hm.since HB2.out
  have HF := Lib.hid (And.intro h1 (And.intro h2 (And.intro h3 h4)))
  clear hm h1 h2 h3 h4 x0 x1 x7
  go_wp2
  exact bodyPost_ret (v := .tuple #[.slice a R.2.length c, .int .i64 R.1.2.2.2]) (by simp [results, Tryz.results16, go_sem]) rfl ⟨a, c, L', v', rfl, HF.out⟩

theorem Hready_nil (w : World) : Calls Tryz.prog 67 #[.pointer none] w fun e w' => e = .returned (.int .i64 2) ∧ w' = w := by
  go_enter Tryz.func67, Tryz.ntmps67
  go_wp2
  go_ret
  exact ⟨rfl, rfl⟩
set_option maxRecDepth 100000 in
theorem HHear_nil (w : World) : Calls Tryz.prog 16 #[.pointer none, .agg msg0] w fun e w' => e = .returned (.tuple #[.slice none 0 0, .int .i64 2]) ∧ Below w.heap.size w w' := by
  go_enter Tryz.func16, Tryz.ntmps16
  go_wp2_with (first | (go_at_call 67; refine (Hready_nil _).mono ?_; rintro _ w2 ⟨rfl, rfl⟩))
  exact bodyPost_ret (v := .tuple #[.slice none 0 0, .int .i64 2]) (by simp [results, Tryz.results16, go_sem]) rfl ⟨rfl, below_alloc _ _⟩
set_option maxRecDepth 100000 in
theorem HTick_nil (w : World) : Calls Tryz.prog 17 #[.pointer none] w fun e w' => e = .returned (.tuple #[.slice none 0 0, .int .i64 2]) ∧ w' = w := by
  go_enter Tryz.func17, Tryz.ntmps17
  go_wp2_with (first | (go_at_call 67; refine (Hready_nil _).mono ?_; rintro _ w2 ⟨rfl, rfl⟩))
  exact bodyPost_ret (v := .tuple #[.slice none 0 0, .int .i64 2]) (by simp [results, Tryz.results17, go_sem]) rfl ⟨rfl, rfl⟩
set_option maxRecDepth 100000 in
theorem HDo_nil (w : World) : Calls Tryz.prog 20 #[.pointer none, .agg #[.int .i64 0, .int .i64 0, .int .i64 0, .int .i64 0]] w fun e w' => e = .returned (.tuple #[.slice none 0 0, .int .i64 2]) ∧ Below w.heap.size w w' := by
  go_enter Tryz.func20, Tryz.ntmps20
  go_wp2_with (first | (go_at_call 67; refine (Hready_nil _).mono ?_; rintro _ w2 ⟨rfl, rfl⟩))
  exact bodyPost_ret (v := .tuple #[.slice none 0 0, .int .i64 2]) (by simp [results, Tryz.results20, go_sem]) rfl ⟨rfl, below_alloc _ _⟩
set_option maxRecDepth 100000 in
theorem HPlan_nil (w : World) : Calls Tryz.prog 18 #[.pointer none] w fun e w' => e = .returned (.agg #[.int .i64 0, .int .i64 0, .slice none 0 0, .slice none 0 0]) ∧ Below w.heap.size w w' := by
  have hz : ∀ W : World, W = w.alloc (.cells #[.int .i64 0, .int .i64 0, .slice none 0 0, .slice none 0 0] 52) → W.cell? ⟨w.heap.size, 0, none⟩ = some (.int .i64 0) ∧ W.cell? ⟨w.heap.size, 1, none⟩ = some (.int .i64 0) ∧ W.cell? ⟨w.heap.size, 2, none⟩ = some (.slice none 0 0) ∧ W.cell? ⟨w.heap.size, 3, none⟩ = some (.slice none 0 0) := by
    rintro W rfl
    have := heap_alloc_new w (.cells #[.int .i64 0, .int .i64 0, .slice none 0 0, .slice none 0 0] 52)
    exact ⟨cells_of this 0 _ rfl, cells_of this 1 _ rfl, cells_of this 2 _ rfl, cells_of this 3 _ rfl⟩
  obtain ⟨r0, r1, r2, r3⟩ := hz _ rfl
  go_enter Tryz.func18, Tryz.ntmps18
  go_wp2
  exact bodyPost_ret (v := .agg #[.int .i64 0, .int .i64 0, .slice none 0 0, .slice none 0 0]) (by simp [results, Tryz.results18, go_sem, r0, r1, r2, r3]) rfl ⟨rfl, below_alloc _ _⟩
end Go.Proofs.YtcpaaleogmiamaaGreatDoor
namespace Go.Proofs.YtcpaaleogmiamaaGreatDoor
open Go.RowKit

theorem openR_new (room : Int) (p : Pl) : openR (newT room) p = (newT room, p, 0) := by
  have hpd : planD (newT room) = [] := rfl
  have hl : loadN 1 p [] 0 = (p, 0) := by
    simp only [loadN]
    exact if_pos (nextV_end [])
  unfold openR
  rw [hpd]
  simp only [List.length_nil, Nat.zero_add]
  rw [hl, if_neg (by omega)]
theorem calm_new {room : Int} (h : 65536 ≤ room) (p : Pl) : Calm p (newT room) p 0 :=
  ⟨⟨[], ⟨rfl, by simp only [newT]; omega, .inl ⟨rfl, rfl⟩⟩, rfl, Nat.le_refl _⟩, rfl⟩

abbrev aw0 : Pl := ⟨3, 2, [⟨1, [1, 2], 0⟩, ⟨1, [2, 3], 0⟩], []⟩
abbrev aw1 : Pl := ⟨3, 2, [⟨2, [1, 2], 0⟩, ⟨2, [2, 3], 0⟩], [(2, 1)]⟩
abbrev aw2 : Pl := ⟨3, 2, [⟨3, [1], 0⟩, ⟨3, [3], 0⟩], [(2, 1)]⟩
theorem aw_new : newP 3 2 2 = aw0 := by rfl
theorem aw_good : goodP aw0 = true ∧ goodP aw1 = true ∧ goodP aw2 = true := by decide
theorem aw_boot : applyP aw0 ⟨1, 2, 0, 1⟩ = (aw1, [0, 1], 0) := by rfl
theorem aw_dead : applyP aw1 ⟨2, 2, 0, 0⟩ = (aw2, [0, 1], 0) := by rfl
theorem aw_want : wantsP aw1 2 = [] := by rfl

theorem aw_beat {t : Tp} (h : Calm aw0 t aw0 0) : (doR t aw0 t.life false ⟨1, 2, 0, 1⟩).2.2.2 = 0 ∧
    ∃ t1, beatR t.life 2 1 t aw0 false = ((t1, aw1, false, 0), [⟨0, 2, 0, 2, 1⟩, ⟨1, 2, 0, 2, 1⟩, ⟨0, 2, 0, 2, 1⟩, ⟨1, 2, 0, 2, 1⟩]) ∧ Calm aw0 t1 aw1 1 ∧ t1.life = t.life := by
  rcases h.act (by omega) ⟨1, 2, 0, 1⟩ with ⟨a, -⟩ | ⟨-, t1, b, c, d⟩
  · rw [aw_boot] at a; exact absurd rfl a
  · rw [aw_boot] at b c
    simp only at b c
    refine ⟨by rw [b], t1, ?_, c, d⟩
    have hE : doE t aw0 t.life false ⟨1, 2, 0, 1⟩ = placesE aw1 [0, 1] := by unfold doE; rw [b, aw_boot]; rfl
    have hl : lifeP aw0.lives 2 = 0 := by rfl
    rw [beatR, hl, if_pos (by decide), b, hE]
    simp only
    rw [wantR, aw_want]
    simp only [joinsR]
    rfl
theorem aw_tick (t : Tp) (life : Int) {k : Int} (hk : k ≤ 4) : deadsR life [(2, k)] aw1.lives t aw1 false = ((t, aw1, false, 0), []) := by
  have : missG [(2, k)] 2 = k := by simp [missG]
  simp only [aw1, deadsR]
  rw [if_pos (by rw [this]; exact hk)]
theorem aw_tick5 {t : Tp} (h : Calm aw0 t aw1 1) : ∃ t2, deadsR t.life [(2, 5)] aw1.lives t aw1 false = ((t2, aw2, false, 0), [⟨0, 3, 0, 2, 1⟩, ⟨1, 3, 0, 2, 1⟩]) ∧ Calm aw0 t2 aw2 2 := by
  rcases h.act (by omega) ⟨2, 2, 0, 0⟩ with ⟨a, -⟩ | ⟨-, t1, b, c, d⟩
  · rw [aw_dead] at a; exact absurd rfl a
  · rw [aw_dead] at b c
    simp only at b c
    refine ⟨t1, ?_, c⟩
    have hE : doE t aw1 t.life false ⟨2, 2, 0, 0⟩ = placesE aw2 [0, 1] := by unfold doE; rw [b, aw_dead]; rfl
    have hm : ¬ missG [((2 : Int), (5 : Int))] 2 ≤ 4 := by decide
    simp only [aw1] at b hE ⊢
    simp only [deadsR]
    rw [if_neg hm, b, hE]
    simp only
    rw [if_neg (by rintro ⟨h, -⟩; exact h rfl)]
    rfl

/-- Opened again behind a loss of power in peace, the plan is the same. -/
theorem Calm.again {P0 p : Pl} {t t' : Tp} {n : Nat} (h : Calm P0 t p n) (ho : OnTo (offT t) t') : ∃ t2, openR t' P0 = (t2, p, 0) := by
  obtain ⟨es, h1, h2, h3⟩ := h.disk
  obtain ⟨a, b, c, d⟩ := h1.off.1.on ho
  rcases d with ⟨d1, d2, d3⟩ | ⟨g, d1, d2⟩
  · obtain ⟨t2, P', es', e1, -, -, -, -, e2⟩ := openR_lost ⟨0, 0, 0, 0⟩ (g := 0) a b c h2 (.inl ⟨d1, d2, d3⟩) (.inl rfl)
    rcases e2 with e2 | ⟨e2, -⟩
    · exact ⟨t2, by rw [e1, e2]⟩
    · have := congrArg List.length e2
      rw [frameB_len] at this
      simp at this
      omega
  · obtain ⟨t2, P', es', e1, -, -, -, -, e2⟩ := openR_lost ⟨0, 0, 0, 0⟩ a b c h2 (.inr ⟨d1, d2⟩) (.inl rfl)
    rcases e2 with e2 | ⟨e2, -⟩
    · exact ⟨t2, by rw [e1, e2]⟩
    · have := congrArg List.length e2
      rw [frameB_len] at this
      simp at this
      omega
theorem Calm.onlyPlan {P0 p : Pl} {t : Tp} {n : Nat} (h : Calm P0 t p n) : ∀ x ∈ t.files, x.1.length ≤ 32 := by
  obtain ⟨es, h1, -⟩ := h.disk
  intro x hx
  rcases h1.files with ⟨-, e⟩ | e
  · rw [e] at hx; cases hx
  · rw [e] at hx
    rw [List.mem_singleton.1 hx]
    show planN.length ≤ 32
    decide
end Go.Proofs.YtcpaaleogmiamaaGreatDoor
namespace Go.Proofs.YtcpaaleogmiamaaGreatDoor
open Go.RowKit

set_option maxRecDepth 100000 in
set_option maxHeartbeats 8000000 in
theorem HPlan_any {w : World} {hb b mb q : Nat} {T : TpL} {t : Tp} {v : Value} {p : Pl} {M : List (Int × Int)} {life : Int} {dead : Bool} (h : HmAt w hb b mb q T t v p M life dead) (hs : SmallP p) :
    Calls Tryz.prog 18 #[.pointer (some ⟨hb, 0, none⟩)] w fun e w' =>
      ∃ (pa' la' : Option Addr) (pc' lc' : Nat) (m : List (Value × Pt)), e = .returned (planV p pa' pc' la' lc') ∧ m.map (·.2) = p.parts ∧ OwnP w' w.heap.size (.slice pa' p.parts.length pc') m ∧
        w'.ownsRow w.heap.size 134 2 (.slice la' p.lives.length lc') p.lives.length (lifeCells p.lives) ∧ Below w.heap.size w w' := by
  obtain ⟨pv, lv, hv, c0, c1, c2, c3, c4, c5, c6, c7, fz⟩ := h.cells
  have hrdp := h.plan.rd
  have hlt0 := h.apart.2.2.2.1
  subst hv
  obtain ⟨pv2, lv2, e, hp, hl⟩ := hrdp
  simp only [Value.agg.injEq, Array.mk.injEq, List.cons.injEq, and_true, true_and] at e
  obtain ⟨rfl, rfl⟩ := e
  obtain ⟨pa, pc, rfl, -, hpm, -⟩ := hp.cells
  obtain ⟨la, lc, rfl, -, hlv, -⟩ := hl.cells
  obtain ⟨nodes, copies, P, L⟩ := p
  obtain ⟨hs1, hs2, hs3⟩ := hs
  simp only at hp hl hs1 hs2 hs3 c1 c2 c3 c4 hpm hlv ⊢
  obtain ⟨m0, hm0, hrd, hch⟩ := hp
  have hlen : m0.length = P.length := by rw [← hm0]; simp
  rw [hlen] at hrd
  have hone := parts_one hch
  have W0 : ∃ W, W = (w.alloc (.cells #[.int .i64 0, .int .i64 0, .slice none 0 0, .slice none 0 0] 52)).alloc (.cells #[.int .i64 nodes, .int .i64 copies, .slice pa P.length pc, .slice la L.length lc] 52) := ⟨_, rfl⟩
  obtain ⟨wa, hwa⟩ := W0
  have hbwa : Below w.heap.size w wa := by rw [hwa]; exact below_alloc2 _ _ _
  have hsz : wa.heap.size = w.heap.size + 2 := by rw [hwa]; simp
  have hN1 : wa.heap[w.heap.size]? = some (.cells #[.int .i64 0, .int .i64 0, .slice none 0 0, .slice none 0 0] 52 (0, 0)) := by
    rw [hwa, Below.heap_alloc _ _ _ (by simp)]; exact heap_alloc_new _ _
  have hN : wa.heap[w.heap.size + 1]? = some (.cells #[.int .i64 nodes, .int .i64 copies, .slice pa P.length pc, .slice la L.length lc] 52 (0, 0)) := by
    rw [hwa]; exact heap_new1 _ _ _
  have hkeep : ∀ W, Below wa.heap.size wa W → W.cell? ⟨w.heap.size + 1, 2, none⟩ = some (.slice pa P.length pc) ∧ W.cell? ⟨w.heap.size + 1, 3, none⟩ = some (.slice la L.length lc) ∧ W.frozen? ⟨w.heap.size + 1, 2, none⟩ = false ∧ W.frozen? ⟨w.heap.size + 1, 3, none⟩ = false := by
    intro W hb
    have := (hb.block (w.heap.size + 1) (by omega)).trans hN
    exact ⟨cells_of this 2 _ rfl, cells_of this 3 _ rfl, frozen_of this, frozen_of this⟩
  have hpr : ∀ W, Below wa.heap.size wa W → Rd W 3 (.slice pa P.length pc) m0.length (partCells m0) := fun W hb => by rw [hlen]; exact (hrd.below hbwa).below hb
  have hlr : ∀ W, Below wa.heap.size wa W → LivesRd W (.slice la L.length lc) L := fun W hb => (hl.below hbwa).below hb
  have HK := Lib.hid hkeep
  have HPR := Lib.hid hpr
  have HLR := Lib.hid hlr
  have HM := Lib.hid (And.intro hm0 (And.intro hch (And.intro hN (And.intro hN1 (And.intro hbwa hsz)))))
  have HONE := Lib.hid hone
  have HS3 := Lib.hid hs3
  obtain ⟨n2, n3, f2, f3⟩ := hkeep wa (Below.refl _ _)
  have hlm : m0.length ≤ 1000000 := by omega
  have hlL : L.length ≤ 1000000 := by omega
  clear hkeep hpr hlr hrd hch hone hl hs3 hm0 hN hN1 h hpm hlv
  go_enter Tryz.func18, Tryz.ntmps18
  go_upto_region 4 with fail
  rw [← hwa]
  clear hwa
  go_cut [14] from 12 to 19 (fun _ wx => ∃ (pa' la' : Option Addr) (pc' lc' : Nat), wx.ownsRow wa.heap.size 36 3 (.slice pa' P.length pc') P.length (partCells m0) ∧ wx.ownsRow wa.heap.size 134 2 (.slice la' L.length lc') L.length (lifeCells L) ∧
    wx.heap[w.heap.size + 1]? = some (.cells #[.int .i64 nodes, .int .i64 copies, .slice pa' P.length pc', .slice la' L.length lc'] 52 (0, 0)) ∧ Upd (fun b => b = w.heap.size + 1) wa wx)
  case first =>
    go_region_law
      (first
        | (go_simp; go_at_call 72; refine (CloneParts_any (HPR.out _ ?_) HONE.out hlm).mono ?_; (first | with_reducible exact (Below.refl _ _).drew | with_reducible exact hwL); rintro e w5 ⟨v5, rfl, hown5, hb5⟩; rw [hlen] at hown5; obtain ⟨a5, q5, rfl, -⟩ := (Sl.of_owns hown5).shape; have hwP : Below wa.heap.size wa w5 := (by first | exact (Below.refl _ wa).drew.trans (hb5.mono (Nat.le_refl _)) | exact hwL.trans (hb5.mono hwL.size)); obtain ⟨c52, c53, e52, e53⟩ := HK.out w5 hwP)
        | (go_simp; go_at_call 71; refine (CloneLives_any (HLR.out _ ?_) hlL).mono ?_; (first | with_reducible exact (Below.refl _ _).drew | with_reducible exact hwP); rintro e w6 ⟨v6, rfl, hown6, hb6⟩; obtain ⟨a6, q6, rfl, -⟩ := (Sl.of_owns hown6).shape; have hwL : Below wa.heap.size wa w6 := (by first | exact (Below.refl _ wa).drew.trans (hb6.mono (Nat.le_refl _)) | exact hwP.trans (hb6.mono hwP.size)); obtain ⟨c62, c63, e62, e63⟩ := HK.out w6 hwL))
    all_goals
      have z5 : w6.ownsRow wa.heap.size 36 3 (.slice a5 P.length q5) P.length (partCells m0) := owns_upd (owns_mono hown5 (Nat.le_refl _)) (Upd.of_below (F := fun _ => False) hb6) (fun _ _ h => h)
      have z6 : w6.ownsRow wa.heap.size 134 2 (.slice a6 L.length q6) L.length (lifeCells L) := owns_mono hown6 hwP.size
      have zs := (upd_set1 w6 (w.heap.size + 1) 2 (.slice a5 P.length q5)).trans (upd_set1 _ (w.heap.size + 1) 3 (.slice a6 L.length q6))
      have zN := (hwL.block (w.heap.size + 1) (by omega)).trans HM.out.2.2.1
      have HZ := Lib.hid (And.intro z5 (And.intro z6 (And.intro zs (And.intro zN hwL))))
      clear z5 z6 zs zN hwL hwP hown5 hown6 hb5 hb6
      go_wp2_with fail
      go_meet
      obtain ⟨z5, z6, zs, zN, hwL⟩ := HZ.out
      exact ⟨a5, a6, q5, q6, owns_upd z5 zs (fun g hg e => by have := (owns_lt z5 g hg).1; omega), owns_upd z6 zs (fun g hg e => by have := (owns_lt z6 g hg).1; omega), setCell_same (setCell_same zN), (Upd.of_below hwL).trans zs⟩
  case rest =>
    obtain ⟨pa', la', pc', lc', hP, hL, hN', hu1⟩ := hcut
    have hown0 : OwnK wc wa.heap.size (.slice pa' P.length pc') m0 0 := ⟨by rw [hlen]; exact hP, fun i _ hi => absurd hi (Nat.not_lt_zero i), fun i j _ _ hi => absurd hi (Nat.not_lt_zero i)⟩
    have H0 := Lib.hid (And.intro hown0 (And.intro hL (And.intro hN' hu1)))
    have n2' := cells_of hN' 2 _ rfl
    clear hP hL hu1 hown0 hN' n2 n3 f2 f3
    go_wp2
    go_loopg [4, 23] P.length (fun gk _ i wx => ∃ (k : Nat) (m : List (Value × Pt)), k ≤ P.length ∧ gk = P.length - k ∧ i = .int .i64 k ∧ m.map (·.2) = P ∧ (∀ i (h1 : i < m.length) (h2 : i < m0.length), k ≤ i → m[i].1 = m0[i].1) ∧
      OwnK wx wa.heap.size (.slice pa' P.length pc') m k ∧ wx.ownsRow wa.heap.size 134 2 (.slice la' L.length lc') L.length (lifeCells L) ∧
      wx.heap[w.heap.size + 1]? = some (.cells #[.int .i64 nodes, .int .i64 copies, .slice pa' P.length pc', .slice la' L.length lc'] 52 (0, 0)) ∧ Upd (fun b => b = w.heap.size + 1) wa wx)
    case atStart =>
      exact ⟨0, m0, Nat.zero_le _, rfl, rfl, HM.out.1, fun _ _ _ _ => rfl, H0.out.1, H0.out.2.1, H0.out.2.2.1, H0.out.2.2.2⟩
    case round =>
      clear n2' H0
      obtain ⟨k, m, hk, rfl, rfl, hmp, hrest, hown, hL, hN', hu1⟩ := hrel
      have HX := Lib.hid (And.intro hmp (And.intro hrest (And.intro hown (And.intro hL (And.intro hN' hu1)))))
      have hsz1 := hu1.size
      have hml : m.length = P.length := by rw [← hmp]; simp
      have n2' := cells_of hN' 2 _ rfl
      by_cases hlt : k < P.length
      · have hkm : k < m.length := by omega
        have hkm0 : k < m0.length := by omega
        have e1 := hrest k hkm hkm0 (Nat.le_refl _)
        have e2 : m0[k].2 = P[k] := by simp [← HM.out.1]
        have e3 : m[k].2 = P[k] := by simp [← hmp]
        have hchk := HM.out.2.1 _ (List.getElem_mem hkm0)
        have hc3 := HS3.out _ (List.getElem_mem hlt)
        rw [e2] at hchk
        obtain ⟨ca, cc, e4, -⟩ := Rd.shape hchk
        rw [e4] at hchk e1
        obtain ⟨g, hpa⟩ : ∃ g, pa' = some ⟨g, 0, none⟩ := by
          rcases hown.own.2 with ⟨h1, h2⟩ | ⟨g, cap, cur, h1, -⟩
          · omega
          · simp only [Value.slice.injEq] at h1; exact ⟨g, h1.1⟩
        subst hpa
        have hpg := partCells_get m k hkm
        have hbelr : Below w.heap.size w wr := hbwa.trans (hu1.toBelow (by omega) (fun b e => by omega))
        have hchr := hchk.below hbelr
        have hglo := owns_lt hown.own g rfl
        have hown' : wr.ownsRow wa.heap.size 36 3 (.slice (some ⟨g, 0, none⟩) P.length pc') P.length (partCells m) := by have := hown.own; rw [hml] at this; exact this
        have hkeep : ∀ W, Below wr.heap.size wr W → W.cell? ⟨w.heap.size + 1, 2, none⟩ = some (.slice (some ⟨g, 0, none⟩) P.length pc') ∧ W.cell? ⟨g, k * 3 + 1, none⟩ = some (.slice ca P[k].chain.length cc) ∧ W.frozen? ⟨g, k * 3 + 1, none⟩ = false := by
          intro W hb
          have hN2 := (hb.block (w.heap.size + 1) (by omega)).trans hN'
          have ho := owns_upd hown' (Upd.of_below (F := fun _ => False) hb) (fun _ _ h => h)
          refine ⟨cells_of hN2 2 _ rfl, ?_, ho.frozenAt _⟩
          rw [ho.cellAt _ (by omega), hpg.2.1, e1]
        have hchW : ∀ W, Below wr.heap.size wr W → IntsRd W (.slice ca P[k].chain.length cc) P[k].chain := fun W hb => hchr.below hb
        have htk : ∀ cv, (m.set k (cv, ⟨m[k].2.epoch, P[k].chain, m[k].2.learner⟩)).map (·.2) = P := by
          intro cv
          have : (⟨m[k].2.epoch, P[k].chain, m[k].2.learner⟩ : Pt) = P[k] := by rw [e3]
          rw [this, List.map_set, hmp]
          exact List.set_getElem_self _
        obtain ⟨n2r, cr, fr⟩ := hkeep wr (Below.refl _ _)
        have HK2 := Lib.hid hkeep
        have HCH := Lib.hid hchW
        have HT := Lib.hid htk
        have HC3 := Lib.hid hc3
        clear hkeep hchW htk hchk hchr hc3 hown hL hN' hmp hrest hu1 hpg e1 e2 e3 e4 hown'
        generalize P[k].chain = ch at *
        have i1 : (k : Int) < (P.length : Int) := by omega
        have i2 : (0 : Int) ≤ (k : Int) := by omega
        have hne : g ≠ w.heap.size + 1 := by omega
        go_wp2
        go_region_law
          (first
            | (go_simp; go_at_call 73; refine (CloneInts_any (HCH.out _ (Below.refl _ _).drew) (by have := HC3.out; omega)).mono ?_; rintro e w5 ⟨v5, rfl, hown5, hb5⟩; obtain ⟨a5, q5, rfl, -⟩ := (Sl.of_owns hown5).shape; have hw5 : Below wr.heap.size wr w5 := (Below.refl _ wr).drew.trans (hb5.mono (Nat.le_refl _)); obtain ⟨c52, c53, e53⟩ := HK2.out w5 hw5))
        all_goals
          have z5 := owns_mono (base' := wr.heap.size) hown5 (Nat.le_refl _)
          have HZ := Lib.hid (And.intro z5 hw5)
          clear z5 hw5 hown5 hb5 c52 c53 e53 n2r cr fr
          go_wp2
          go_roundg (P.length - (k + 1))
          case measure => omega
          case rel =>
            obtain ⟨z5, hw5⟩ := HZ.out
            obtain ⟨q1, q2, q3, q4, q5', q6⟩ := HX.out
            have hs := upd_set1 w5 g (k * 3 + 1) (.slice a5 ch.length q5)
            refine ⟨k + 1, m.set k (.slice a5 ch.length q5, ⟨m[k].2.epoch, ch, m[k].2.learner⟩), by omega, rfl, by go_num, HT.out _, ?_, ?_, ?_, ?_, ?_⟩
            · intro i h1 h2 hki
              rw [List.getElem_set, if_neg (by omega)]
              exact q2 i (by simpa using h1) h2 (by omega)
            · exact (q3.below hw5).setChain (by omega) k hkm (by omega) (owns_mono z5 (by omega)) (fun i hi hik _ g' hg' hg2 => by
                have := (owns_lt (q3.chain i hi hik) g' hg').2
                have := (owns_lt z5 g' hg2).1
                omega)
            · have h4 := owns_upd q4 (Upd.of_below (F := fun _ => False) hw5) (fun _ _ h => h)
              have h3 := owns_upd q3.own (Upd.of_below (F := fun _ => False) hw5) (fun _ _ h => h)
              exact owns_upd h4 hs (fun g' hg' e => owns_types h4 h3 (by decide) g' hg' (by rw [e]; rfl))
            · rw [hs.block _ (by have := hw5.size; omega) (by omega), hw5.block _ (by omega)]
              exact q5'
            · exact q6.thenBelow ((hw5.mono hsz1).trans (hs.toBelow (by have := hw5.size; omega) (fun b e => by omega)))
      · have i1 : ¬ (k : Int) < (P.length : Int) := by omega
        have hkP : k = m.length := by omega
        subst hkP
        have x0 := cells_of hN' 0 _ rfl
        have x1 := cells_of hN' 1 _ rfl
        have x3 := cells_of hN' 3 _ rfl
        have hN1 := (hu1.block w.heap.size (by omega) (by omega)).trans HM.out.2.2.2.1
        have y0 := cells_of hN1 0 _ rfl
        have y1 := cells_of hN1 1 _ rfl
        have y2 := cells_of hN1 2 _ rfl
        have y3 := cells_of hN1 3 _ rfl
        have g0 := frozen_of (j := 0) hN1
        have g1 := frozen_of (j := 1) hN1
        have g2 := frozen_of (j := 2) hN1
        have g3 := frozen_of (j := 3) hN1
        have HN1 := Lib.hid hN1
        clear hmp hrest hown hL hN' hu1 hN1
        go_wp2
        have hf := setCell_same (o := 3) (v := .slice la' L.length lc') (setCell_same (o := 2) (v := .slice pa' P.length pc') (setCell_same (o := 1) (v := .int .i64 copies) (setCell_same (o := 0) (v := .int .i64 nodes) HN1.out)))
        have r0 := cells_of hf 0 _ rfl
        have r1 := cells_of hf 1 _ rfl
        have r2 := cells_of hf 2 _ rfl
        have r3 := cells_of hf 3 _ rfl
        have hset := upd_set4 wr w.heap.size (.int .i64 nodes) (.int .i64 copies) (.slice pa' P.length pc') (.slice la' L.length lc')
        obtain ⟨q1, q2, q3, q4, q5, q6⟩ := HX.out
        refine bodyPost_ret (v := .agg #[.int .i64 nodes, .int .i64 copies, .slice pa' P.length pc', .slice la' L.length lc']) (by simp [results, Tryz.results18, go_sem, r0, r1, r2, r3]) rfl ⟨pa', la', pc', lc', rfl, m, q1, ?_, ?_, ?_⟩
        · exact (q3.low hset (fun b e => by omega)).mono (by omega)
        · exact owns_mono (owns_upd q4 hset (fun g hg e => by have := (owns_lt q4 g hg).1; omega)) (by omega)
        · exact hbwa.trans ((q6.toBelow (by omega) (fun b e => by omega)).trans (hset.toBelow (by omega) (fun b e => by omega)))
end Go.Proofs.YtcpaaleogmiamaaGreatDoor
