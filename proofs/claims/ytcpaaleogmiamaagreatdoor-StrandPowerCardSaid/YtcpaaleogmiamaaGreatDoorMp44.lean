/- The walk of heliographlaw07.StrandPower. -/
import Derived.Test.YtcpaaleogmiamaaGreatDoorMp43
import Derived.Deep.CutBlock
namespace Go.Proofs.YtcpaaleogmiamaaGreatDoor
open Go.RowKit

/-- What stands when i acts are played. -/
def PwR (w2 : World) (b mb : Nat) (sz : Int) (i : Nat) (sb : Nat) (sv gv : Value) (W : World) : Prop :=
  ∃ (x : St) (t : Tp) (ls lg : List Batch), DqR w2 sb b mb (fun V => BsRd V sv ls) gv lg x t W ∧ Pw t x ls.length ∧ allB x.segs = lg ∧ lg.take ls.length = ls ∧ x.pre = partB ∧ x.size = sz ∧ x.segs.length ≤ i ∧ lg.length ≤ i
/-- The power has gone. -/
def PwD (w2 : World) (b mb : Nat) (i : Nat) (Q : World → Prop) (sv gv : Value) (W : World) : Prop :=
  ∃ (t : Tp) (s : List Sg) (ls lg : List Batch), TqR w2 b mb (fun V => BsRd V sv ls ∧ Q V) gv lg t W ∧ Disk partB s t.files ls.length ∧ (t.down = true → t.armed = 0) ∧ lg.take (allB s).length = allB s ∧ lg.take ls.length = ls ∧ s.length ≤ i ∧ lg.length ≤ i
/-- Behind an act. -/
def PwS (w2 : World) (b mb : Nat) (sz : Int) (i : Nat) (sb : Nat) (Q : World → Prop) (v9 v10 v14 : Value) (W : World) : Prop :=
  (∃ c : Int, v14 = .int .i64 c ∧ c ≠ 10 ∧ PwR w2 b mb sz i sb v9 v10 W) ∨ (v14 = .int .i64 10 ∧ PwD w2 b mb i Q v9 v10 W)
theorem bsRd_none (V : World) (a : Addr) : BsRd V (.slice (some a) 0 0) [] := ⟨[], rfl, ⟨rfl, .inr ⟨a, 0, rfl, Nat.le_refl _, by unfold maxLen; omega, by simp [bCells]⟩⟩, by simp⟩
theorem Pw.arm {t : Tp} {x : St} {k : Nat} (h : Pw t x k) (n : Nat) : Pw { t with armed := n } x k := ⟨h.down, h.dead, h.life, h.disk⟩
theorem PwR.shape {w2 : World} {b mb : Nat} {sz : Int} {i sb : Nat} {sv gv : Value} {W : World} (h : PwR w2 b mb sz i sb sv gv W) : ∃ a n c a2 n2 c2, sv = .slice a n c ∧ gv = .slice a2 n2 c2 := by
  obtain ⟨x, t, ls, lg, hq, -⟩ := h
  obtain ⟨a, c, e1, -⟩ := BsRd.cells hq.p
  obtain ⟨a2, c2, e2⟩ := hq.shape
  exact ⟨a, _, c, a2, _, c2, e1, e2⟩
theorem i64_small {k : Nat} (h : k < 1000) : I64 (k : Int) := ⟨by omega, by omega⟩
theorem take_len {α : Type} {l m : List α} {n : Nat} (h : l.take n = m) : l.take m.length = m := by
  have h1 := congrArg List.length h
  rw [List.length_take] at h1
  by_cases hn : n ≤ l.length
  · rw [show m.length = n by omega]; exact h
  · rw [List.take_of_length_le (by omega)] at h ⊢
    exact h

set_option maxRecDepth 100000 in
set_option maxHeartbeats 8000000 in
theorem StPower_any {w : World} (hE : Env w) (seg : Int) {v v2 : Value} {A : List SAct} {pw : List Int} (h : SActsRd w v A) (hp : IntsRd w v2 pw) : Calls Tryz.prog 6 #[.int .i64 seg, v, v2] w fun e w' => e = .returned (.bool true) ∧ Below w.heap.size w w' := by
  obtain ⟨a, c, rfl, hml⟩ := h.shape
  obtain ⟨pa, pc, rfl, -⟩ := Rd.shape hp
  have hpl := Rd.maxlen hp
  have hpl2 : (pw.length : Int) ≤ 9223372036854775807 := by unfold maxLen at hpl; omega
  clear hpl
  have HPW := Lib.hid hp
  clear hp
  have hal : (A.length : Int) ≤ 9223372036854775807 := by unfold maxLen at hml; omega
  have H0 := Lib.hid (And.intro hE h)
  have haw := L7awake_any hE
  have HAW := Lib.hid haw
  clear hE h haw hml
  go_enter Tryz.func6, Tryz.ntmps6
  go_wp2_with fail
  refine HAW.out.mono ?_
  rintro e w1 ⟨rfl, hb1⟩
  have hgr := L7great_any (H0.out.2.below hb1)
  have HGR := Lib.hid hgr
  have H1 := Lib.hid (And.intro (H0.out.1.below hb1) (And.intro (H0.out.2.below hb1) hb1))
  clear hgr hb1 HAW H0
  go_wp2_with fail
  refine HGR.out.mono ?_
  rintro e w2 ⟨⟨g, rfl, hsm⟩, hw2⟩
  subst hw2
  have HSM := Lib.hid hsm
  clear hsm HGR
  cases g with
  | true =>
    go_wp2_with fail
    go_ret
    exact ⟨rfl, H1.out.2.2⟩
  | false =>
    have hop := L7opened_any H1.out.1 seg
    have hsi := sizeS_in seg
    obtain ⟨sz, hsz⟩ : ∃ sz, sizeS seg = sz := ⟨_, rfl⟩
    rw [hsz] at hop hsi
    have HOP := Lib.hid hop
    have HSZ := Lib.hid hsz
    clear hop hsz
    go_wp2_with fail
    refine HOP.out.mono ?_
    rintro e w3 ⟨b, mb, sb, L, S, rfl, hsd⟩
    have hsm : ∀ i (hi : i < A.length), i < 60 → A[i].b.recs.length ≤ 20 := fun i hi h => (HSM.out trivial i hi h).1
    obtain ⟨n3, hn3⟩ : ∃ n3, w3.heap.size = n3 := ⟨_, rfl⟩
    obtain ⟨w5, hw5⟩ : ∃ w5, w5 = (w3.alloc (.cells #[] 40)).alloc (.cells #[] 40) := ⟨_, rfl⟩
    have hb5 : Below w3.heap.size w3 w5 := by rw [hw5]; exact (below_alloc w3 _).alloc (by simp) _
    have hst : DqR w2 sb b mb (fun V => BsRd V (.slice (some ⟨n3, 0, none⟩) 0 0) []) (.slice (some ⟨n3 + 1, 0, none⟩) 0 0) [] ⟨partB, sz, [], 0, false⟩ (newT 1048576) w5 := by
      have hz := hsd.base.size
      refine ⟨L, S, hsd.below hb5, [], fun _ => False, rfl, ?_, fun g hg => ⟨fun hx => ?_, fun h => h⟩, by simp, fun F V _ _ => bsRd_none V _, fun k hk => hk.elim⟩
      · rw [hw5]
        have h1 := World.ownsRow_made (e := 40) (size := 6) (base := w2.heap.size) (w3.alloc (.cells #[] 40)) #[] 0 (by simp; omega) (Nat.zero_le _) rfl
        rw [World.size_alloc, hn3] at h1
        exact h1
      · simp only [Value.ownBlock, Option.some.injEq] at hg
        have := hsd.lt g hx
        omega
    have HST := Lib.hid hst
    have HS20 := Lib.hid hsm
    have HPW2 := Lib.hid (HPW.out.below (H1.out.2.2))
    clear hst hsd hsm HOP HSM HPW
    go_upto_region 11 with fail
    try simp only [World.size_alloc, hn3]
    try rw [← hw5]
    clear hw5
    have hpc : ∀ k (hk : k < pw.length), ∃ pb po, pa = some ⟨pb, po, none⟩ ∧ ∀ W, Below w2.heap.size w2 W → W.cell? ⟨pb, po + k, none⟩ = some (.int .i64 pw[k]) := by
      intro k hk
      obtain ⟨pb, po, pc2, e, -, -, -, hc⟩ := Rd.at HPW2.out (by omega)
      simp only [Value.slice.injEq, true_and] at e
      exact ⟨pb, po, e.1, fun W hW => cellB hW (hc k (.int .i64 pw[k]) (by simp [intCells, hk]))⟩
    have HPC := Lib.hid hpc
    clear hpc HPW2
    go_upto_if 34 with fail
    go_cut [11] from 34 to 42 (fun v11 wc => v11 = .int .i64 0 ∧ ∃ t, DqR w2 sb b mb (fun V => BsRd V (.slice (some ⟨n3, 0, none⟩) 0 0) []) (.slice (some ⟨n3 + 1, 0, none⟩) 0 0) [] ⟨partB, sz, [], 0, false⟩ t wc ∧ Pw t ⟨partB, sz, [], 0, false⟩ 0)
    case first =>
      have hpw0 : Pw (newT 1048576) ⟨partB, sz, [], 0, false⟩ 0 := ⟨rfl, rfl, rfl, ⟨Row.none, Tied.nil _, Nat.le_refl _, fun m g hs => by simp at hs⟩⟩
      by_cases h0 : 0 < pw.length
      · obtain ⟨pb, po, rfl, hcl⟩ := HPC.out 0 h0
        rw [Nat.add_zero] at hcl
        have hc0 := hcl _ HST.out.base
        obtain ⟨p0, hp0⟩ : ∃ p0, pw[0] = p0 := ⟨_, rfl⟩
        rw [hp0] at hc0
        obtain ⟨n, hm, hn40⟩ := u64_mod7 p0 40 (by decide)
        have hu : wrap64 (n : Int) = (n : Int) := IntWalk.wrap64_in _ (by omega)
        have har := HST.out.arm (n := (n : Int)) ⟨by omega, by omega⟩
        have HAR := Lib.hid har
        have HM := Lib.hid hm
        have h01 : (0 : Int) < (pw.length : Int) := by omega
        clear hcl har hm hp0
        have hm := HM.out
        go_wp2_with fail
        refine HAR.out.mono ?_
        rintro e w6 ⟨rfl, hq6⟩
        have HQ6 := Lib.hid hq6
        clear hq6 hm HM HAR
        go_wp2_with fail
        go_meet
        exact ⟨rfl, _, HQ6.out, hpw0.arm _⟩
      · have h01 : ¬ (0 : Int) < (pw.length : Int) := by omega
        go_wp2_with fail
        go_meet
        exact ⟨rfl, _, HST.out, hpw0⟩
    case rest =>
      obtain ⟨rfl, t0, hq0, hp0⟩ := hcut
      have hst : PwR w2 b mb sz 0 sb (.slice (some ⟨n3, 0, none⟩) 0 0) (.slice (some ⟨n3 + 1, 0, none⟩) 0 0) wc := ⟨_, t0, [], [], hq0, hp0, rfl, rfl, rfl, rfl, Nat.le_refl _, Nat.le_refl _⟩
      have HST2 := Lib.hid hst
      clear hst hq0 hp0 HST
      go_wp2_with fail
      go_loopg [8, 9, 10, 11, 12] A.length (fun gk v8 v9 v10 v11 v12 wr => ∃ i n sb : Nat, i ≤ A.length ∧ i ≤ 60 ∧ n ≤ i ∧ gk = A.length - i ∧ v12 = .int .i64 i ∧ v11 = .int .i64 n ∧ v8 = .pointer (some ⟨sb, 0, none⟩) ∧ PwR w2 b mb sz i sb v9 v10 wr)
      case atStart => exact ⟨0, 0, sb, Nat.zero_le _, Nat.zero_le _, Nat.le_refl _, rfl, rfl, rfl, rfl, HST2.out⟩
      case round =>
        clear HST2
        obtain ⟨i, n, sb, hi, hi60, hni, rfl, rfl, rfl, rfl, hro⟩ := hrel
        obtain ⟨sa, sn, sc, ga, gn, gc, rfl, rfl⟩ := hro.shape
        by_cases hgo : i < A.length ∧ i < 60
        · obtain ⟨hit, hi6⟩ := hgo
          obtain ⟨x5, t5, ls, lg, hq5, hpw5, hal5, hpf5, hpre, hsz5, hsl5, hll5⟩ := hro
          obtain ⟨ab, ao, ra, rc, la, lc, fa, fc, rfl, q0, q1, q2, q3, q4, q5, q6, q7, q8, q9, q10, q11, hrr, -, hfi⟩ := H1.out.2.1.at i hit
          obtain ⟨x, hx⟩ : ∃ x, A[i] = x := ⟨_, rfl⟩
          have h20 : x.b.recs.length ≤ 20 := by rw [← hx]; exact HS20.out i hit hi6
          rw [hx] at q0 q1 q2 q3 q4 q5 q6 q7 q8 q9 q10 q11 hrr hfi
          have hB := hq5.base
          have q0 := cellB hB q0
          have q1 := cellB hB q1
          have q2 := cellB hB q2
          have q3 := cellB hB q3
          have q4 := cellB hB q4
          have q5 := cellB hB q5
          have q6 := cellB hB q6
          have q7 := cellB hB q7
          have q8 := cellB hB q8
          have q9 := cellB hB q9
          have q10 := cellB hB q10
          have q11 := cellB hB q11
          have hrr := hrr.below hB
          have j1 : (i : Int) < (A.length : Int) := by omega
          have j2 : (0 : Int) ≤ (i : Int) := by omega
          have j3 : (i : Int) < 60 := by omega
          have hFI : ∀ V, Below w2.heap.size w2 V → IntsRd V (.slice fa x.fates.length fc) x.fates := fun V hV => hfi.below hV
          have H5 := Lib.hid (And.intro hq5 (And.intro hpw5 (And.intro hal5 (And.intro hpf5 (And.intro hpre (And.intro hsz5 (And.intro hsl5 hll5)))))))
          have HRR := Lib.hid hrr
          have HFI := Lib.hid hFI
          clear hq5 hpw5 hal5 hpf5 hpre hsz5 hsl5 hll5 hrr hx hfi hFI hB
          go_upto_region 19 with fail
          obtain ⟨nb, hnb⟩ : ∃ nb, wr.heap.size = nb := ⟨_, rfl⟩
          obtain ⟨wx, hwx⟩ : ∃ wx, wx = wr.alloc (.cells #[.int .i64 x.kind, .int .i64 x.b.base, .int .i64 x.b.count, .int .i64 x.b.prod, .int .i64 x.b.seq, .int .i64 x.b.time, .slice ra x.b.recs.length rc, .bool true, .int .i64 x.n, .slice la x.less.length lc, .slice fa x.fates.length fc, .string x.name] 78) := ⟨_, rfl⟩
          have hbx : Below wr.heap.size wr wx := by rw [hwx]; exact below_alloc _ _
          have hbc : wx.heap[nb]? = some (.cells #[.int .i64 x.kind, .int .i64 x.b.base, .int .i64 x.b.count, .int .i64 x.b.prod, .int .i64 x.b.seq, .int .i64 x.b.time, .slice ra x.b.recs.length rc, .bool true, .int .i64 x.n, .slice la x.less.length lc, .slice fa x.fates.length fc, .string x.name] 78 (0, 0)) := by rw [hwx, ← hnb]; exact heap_alloc_new _ _
          rw [← hwx, hnb]
          have hen : ∀ W, Below wx.heap.size wx W → Calls Tryz.prog 32 #[.pointer (some ⟨sb, 0, none⟩)] W fun e w' => e = .returned (.int .i64 (endS x5.segs)) ∧ Below wx.heap.size wx w' ∧ Below W.heap.size W w' := fun W hW => by
            obtain ⟨L0, S0, hs0, -⟩ := H5.out.1
            exact (StEnd_any ((hs0.below hbx).below hW).st hs0.ok).mono (fun e w' h => ⟨h.1, below_trans hW h.2, h.2⟩)
          obtain ⟨ev, hev⟩ : ∃ ev, endS x5.segs = ev := ⟨_, rfl⟩
          rw [hev] at hen
          have hnx : ∀ W, Below wx.heap.size wx W → Calls Tryz.prog 31 #[x.v (.slice ra x.b.recs.length rc) (.slice la x.less.length lc) (.slice fa x.fates.length fc) true, .int .i64 ev] W fun en w' => ∃ (va : Option Addr) (vc : Nat), en = .returned (.agg #[.int .i64 ev, .int .i64 x.b.count, .int .i64 x.b.prod, .int .i64 x.b.seq, .int .i64 x.b.time, .slice va x.b.recs.length vc]) ∧ w'.ownsRow wx.heap.size 84 4 (.slice va x.b.recs.length vc) x.b.recs.length (recCells (nextB x.b ev).recs) ∧ Below wx.heap.size wx w' ∧ Below W.heap.size W w' := by
            intro W hW
            refine (L7next_any (HRR.out.below (hbx.trans (hW.mono hbx.size))) h20 ev).mono ?_
            rintro en w' ⟨v, rfl, hv, hb⟩
            obtain ⟨va, vc, rfl, -⟩ := (Sl.of_owns hv).shape
            exact ⟨va, vc, rfl, owns_mono hv hW.size, below_trans hW hb, hb⟩
          simp only [SAct.v] at hnx
          have hk12 : ∀ W, Below wx.heap.size wx W → W.cell? ⟨nb, 0, none⟩ = some (.int .i64 x.kind) ∧ W.cell? ⟨nb, 1, none⟩ = some (.int .i64 x.b.base) ∧ W.cell? ⟨nb, 2, none⟩ = some (.int .i64 x.b.count) ∧ W.cell? ⟨nb, 3, none⟩ = some (.int .i64 x.b.prod) ∧ W.cell? ⟨nb, 4, none⟩ = some (.int .i64 x.b.seq) ∧ W.cell? ⟨nb, 5, none⟩ = some (.int .i64 x.b.time) ∧ W.cell? ⟨nb, 6, none⟩ = some (.slice ra x.b.recs.length rc) ∧
              W.cell? ⟨nb, 7, none⟩ = some (.bool true) ∧ W.cell? ⟨nb, 8, none⟩ = some (.int .i64 x.n) ∧ W.cell? ⟨nb, 9, none⟩ = some (.slice la x.less.length lc) ∧ W.cell? ⟨nb, 10, none⟩ = some (.slice fa x.fates.length fc) ∧ W.cell? ⟨nb, 11, none⟩ = some (.string x.name) := fun W hW => by
            have h := heap_below hW hbc
            exact ⟨cells_of h 0 _ rfl, cells_of h 1 _ rfl, cells_of h 2 _ rfl, cells_of h 3 _ rfl, cells_of h 4 _ rfl, cells_of h 5 _ rfl, cells_of h 6 _ rfl, cells_of h 7 _ rfl, cells_of h 8 _ rfl, cells_of h 9 _ rfl, cells_of h 10 _ rfl, cells_of h 11 _ rfl⟩
          have HEN := Lib.hid hen
          have HNX := Lib.hid hnx
          have HK := Lib.hid hk12
          have HX := Lib.hid (And.intro hbx (And.intro hev (And.intro hbc hnb)))
          obtain ⟨k0, k1, k2, k3, k4, k5, k6, k7, k8, k9, k10, k11⟩ := HK.out wx (Below.refl _ _)
          clear hwx hnb hbx hbc hen hnx hk12 hev HRR q0 q1 q2 q3 q4 q5 q6 q7 q8 q9 q10 q11
          go_cut [15] from 58 to 61 (fun v15 wc => ∃ (yb : Nat) (va : Option Addr) (vc : Nat), v15 = .pointer (some ⟨yb, 0, none⟩) ∧ wc.heap[yb]? = some (.cells #[.int .i64 ev, .int .i64 x.b.count, .int .i64 x.b.prod, .int .i64 x.b.seq, .int .i64 x.b.time, .slice va x.b.recs.length vc] 40 (0, 0)) ∧ wx.heap.size ≤ yb ∧ wc.ownsRow wx.heap.size 84 4 (.slice va x.b.recs.length vc) x.b.recs.length (recCells (nextB x.b ev).recs) ∧ Below wx.heap.size wx wc)
          case first =>
            have ka := fun o => HK.out (wx.alloc o) (below_alloc wx o)
            have ka0 := fun o => (ka o).1
            have ka1 := fun o => (ka o).2.1
            have ka2 := fun o => (ka o).2.2.1
            have ka3 := fun o => (ka o).2.2.2.1
            have ka4 := fun o => (ka o).2.2.2.2.1
            have ka5 := fun o => (ka o).2.2.2.2.2.1
            have ka6 := fun o => (ka o).2.2.2.2.2.2.1
            have ka7 := fun o => (ka o).2.2.2.2.2.2.2.1
            have ka8 := fun o => (ka o).2.2.2.2.2.2.2.2.1
            have ka9 := fun o => (ka o).2.2.2.2.2.2.2.2.2.1
            have ka10 := fun o => (ka o).2.2.2.2.2.2.2.2.2.2.1
            have ka11 := fun o => (ka o).2.2.2.2.2.2.2.2.2.2.2
            clear ka
            have hdA : Below wx.heap.size wx ((wx.alloc (.cells #[.int .i64 0, .int .i64 0, .int .i64 0, .int .i64 0, .int .i64 0, .slice none 0 0] 40)).drew) := (below_alloc wx _).drew
            have hzA : ((wx.alloc (.cells #[.int .i64 0, .int .i64 0, .int .i64 0, .int .i64 0, .int .i64 0, .slice none 0 0] 40)).drew).heap[wx.heap.size]? = some (.cells #[.int .i64 0, .int .i64 0, .int .i64 0, .int .i64 0, .int .i64 0, .slice none 0 0] 40 (0, 0)) := heap_alloc_new wx _
            have hdB : Below wx.heap.size wx wx.drew := (Below.refl _ _).drew
            go_region_with (first
                | (go_at_call 32; with_reducible refine (HEN.out _ hdB).mono ?_; rintro _ w6 ⟨rfl, h6, hl6⟩; obtain ⟨k0, k1, k2, k3, k4, k5, k6, k7, k8, k9, k10, k11⟩ := HK.out w6 h6; have kb := fun o => HK.out (w6.alloc o) (h6.alloc h6.size o); have kb0 := fun o => (kb o).1; have kb1 := fun o => (kb o).2.1; have kb2 := fun o => (kb o).2.2.1; have kb3 := fun o => (kb o).2.2.2.1; have kb4 := fun o => (kb o).2.2.2.2.1; have kb5 := fun o => (kb o).2.2.2.2.2.1; have kb6 := fun o => (kb o).2.2.2.2.2.2.1; have kb7 := fun o => (kb o).2.2.2.2.2.2.2.1; have kb8 := fun o => (kb o).2.2.2.2.2.2.2.2.1; have kb9 := fun o => (kb o).2.2.2.2.2.2.2.2.2.1; have kb10 := fun o => (kb o).2.2.2.2.2.2.2.2.2.2.1; have kb11 := fun o => (kb o).2.2.2.2.2.2.2.2.2.2.2; clear kb)
                | (go_at_call 32; refine (HEN.out _ hdA).mono ?_; rintro _ w6 ⟨rfl, h6, hl6⟩; obtain ⟨k0, k1, k2, k3, k4, k5, k6, k7, k8, k9, k10, k11⟩ := HK.out w6 h6; have hz6 : w6.heap[wx.heap.size]? = some (.cells #[.int .i64 0, .int .i64 0, .int .i64 0, .int .i64 0, .int .i64 0, .slice none 0 0] 40 (0, 0)) := heap_below hl6 hzA)
                | (go_at_call 31; have hg := hz6; refine (HNX.out _ ?_).mono ?_; with_reducible exact h6; rintro _ w7 ⟨va, vc, rfl, ho7, h7, hl7⟩; have hz7 : w7.heap[wx.heap.size]? = some (.cells #[.int .i64 0, .int .i64 0, .int .i64 0, .int .i64 0, .int .i64 0, .slice none 0 0] 40 (0, 0)) := heap_below hl7 hz6; obtain ⟨y0, y1, y2, y3, y4, y5, v0, v1, v2, v3, v4, v5⟩ := zero6 hz7)
                | (go_at_call 31; have hg := h6; refine (HNX.out _ ?_).mono ?_; with_reducible exact h6.alloc h6.size _; rintro _ w7 ⟨va, vc, rfl, ho7, h7, hl7⟩; have hz7 : w7.heap[w6.heap.size]? = some (.cells #[.int .i64 0, .int .i64 0, .int .i64 0, .int .i64 0, .int .i64 0, .slice none 0 0] 40 (0, 0)) := heap_below hl7 (heap_alloc_new w6 _); obtain ⟨y0, y1, y2, y3, y4, y5, v0, v1, v2, v3, v4, v5⟩ := zero6 hz7)
                | (go_at_call 31; have hg := h6; refine (HNX.out _ ?_).mono ?_; with_reducible exact h6; rintro _ w7 ⟨va, vc, rfl, ho7, h7, hl7⟩))
            all_goals
              go_wp2_with fail
              go_meet
              first
                | (refine ⟨_, va, vc, rfl, ?_, ?_, ?_, ?_⟩
                   with_reducible exact heap_alloc_new w7 _
                   with_reducible exact h7.size
                   exact ho7.alloc _
                   exact h7.alloc h7.size _)
                | (have hkd : ∀ q, (Value.slice va x.b.recs.length vc).ownBlock = some q → ∀ k, w7.heap[k]? = some (.cells #[.int .i64 0, .int .i64 0, .int .i64 0, .int .i64 0, .int .i64 0, .slice none 0 0] 40 (0, 0)) → ¬ q = k := fun q hq k hk e => (by
                    obtain ⟨cur, hc⟩ := owns_kind3 ho7 q hq
                    rw [e, hk] at hc
                    simp at hc)
                   obtain ⟨s1, s2⟩ := set6 hz7 (.int .i64 ev) (.int .i64 x.b.count) (.int .i64 x.b.prod) (.int .i64 x.b.seq) (.int .i64 x.b.time) (.slice va x.b.recs.length vc)
                   have s3 := owns_upd ho7 s2 (fun q hq e => hkd q hq _ hz7 e)
                   first
                     | (have s4 := h7.trans (s2.toBelow h7.size (fun k e => by have := h6.size; omega))
                        refine ⟨_, va, vc, rfl, ?_, ?_, ?_, ?_⟩
                        with_reducible exact s1
                        with_reducible exact h6.size
                        with_reducible exact s3
                        with_reducible exact s4)
                     | (have s4 := h7.trans (s2.toBelow h7.size (fun k e => by omega))
                        refine ⟨_, va, vc, rfl, ?_, ?_, ?_, ?_⟩
                        with_reducible exact s1
                        with_reducible exact Nat.le_refl _
                        with_reducible exact s3
                        with_reducible exact s4))
          case rest =>
            obtain ⟨yb, va, vc, rfl, hy, hyb, hor, hbc⟩ := hcut
            obtain ⟨hbx, hev, hbn, hnb⟩ := HX.out
            clear k0 k1 k2 k3 k4 k5 k6 k7 k8 k9 k10 k11 HK HEN HNX
            obtain ⟨hq5, hpw5, hal5, hpf5, hpre, hsz5, hsl5, hll5⟩ := H5.out
            obtain ⟨bt, hbt⟩ : ∃ bt, nextB x.b ev = bt := ⟨_, rfl⟩
            obtain ⟨rn, hrn⟩ : ∃ rn, x.b.recs.length = rn := ⟨_, rfl⟩
            have hbl : bt.recs.length = rn := by rw [← hbt, ← hrn]; simp [nextB]
            have hbv : ∀ rv, bt.v rv = .agg #[.int .i64 ev, .int .i64 x.b.count, .int .i64 x.b.prod, .int .i64 x.b.seq, .int .i64 x.b.time, rv] := fun rv => by rw [← hbt]; rfl
            have hbb : bt.base = ev ∧ bt.count = x.b.count ∧ bt.prod = x.b.prod ∧ bt.seq = x.b.seq ∧ bt.time = x.b.time := by rw [← hbt]; exact ⟨rfl, rfl, rfl, rfl, rfl⟩
            rw [hbt, hrn] at hor
            rw [hrn] at hy hbn
            have hbc5 : Below wr.heap.size wr wc := hbx.trans (hbc.mono hbx.size)
            have hzx := hbx.size
            have hzn : nb < wx.heap.size := (Array.getElem?_eq_some_iff.1 hbn).1
            have hzc := hbc.size
            have hzy : yb < wc.heap.size := (Array.getElem?_eq_some_iff.1 hy).1
            have hnc := heap_below hbc hbn
            have hq6 := hq5.hold hbc5 (Q := fun V => V.heap[nb]? = some (.cells #[.int .i64 x.kind, .int .i64 x.b.base, .int .i64 x.b.count, .int .i64 x.b.prod, .int .i64 x.b.seq, .int .i64 x.b.time, .slice ra rn rc, .bool true, .int .i64 x.n, .slice la x.less.length lc, .slice fa x.fates.length fc, .string x.name] 78 (0, 0)) ∧ (V.heap[yb]? = some (.cells #[.int .i64 ev, .int .i64 x.b.count, .int .i64 x.b.prod, .int .i64 x.b.seq, .int .i64 x.b.time, .slice va rn vc] 40 (0, 0)) ∧ RcsRd V (.slice va rn vc) bt.recs))
              ((InS.blk hnc ⟨by omega, by omega⟩).and ((InS.blk hy ⟨by omega, by omega⟩).and ((owns_inS hor (S := fun k => wr.heap.size ≤ k ∧ k < wc.heap.size) (fun g hg => by have := owns_lt hor g hg; exact ⟨by omega, this.2⟩)).imp (fun V hV => by unfold RcsRd; rw [hbl]; exact hV))))
            have hk0 : wc.cell? ⟨nb, 0, none⟩ = some (.int .i64 x.kind) := cells_of hnc 0 _ rfl
            obtain ⟨PX, hPX⟩ : ∃ PX : World → Prop, (fun V => BsRd V (.slice sa sn sc) ls ∧ (V.heap[nb]? = some (.cells #[.int .i64 x.kind, .int .i64 x.b.base, .int .i64 x.b.count, .int .i64 x.b.prod, .int .i64 x.b.seq, .int .i64 x.b.time, .slice ra rn rc, .bool true, .int .i64 x.n, .slice la x.less.length lc, .slice fa x.fates.length fc, .string x.name] 78 (0, 0)) ∧ (V.heap[yb]? = some (.cells #[.int .i64 ev, .int .i64 x.b.count, .int .i64 x.b.prod, .int .i64 x.b.seq, .int .i64 x.b.time, .slice va rn vc] 40 (0, 0)) ∧ RcsRd V (.slice va rn vc) bt.recs))) = PX := ⟨_, rfl⟩
            have hPA : ∀ V, PX V → BsRd V (.slice sa sn sc) ls := fun V h => by rw [← hPX] at h; exact h.1
            have hPB : ∀ V, PX V → V.cell? ⟨nb, 10, none⟩ = some (.slice fa x.fates.length fc) := fun V h => by rw [← hPX] at h; exact cells_of h.2.1 10 _ rfl
            have hPC : ∀ V, PX V → V.heap[yb]? = some (.cells #[.int .i64 ev, .int .i64 x.b.count, .int .i64 x.b.prod, .int .i64 x.b.seq, .int .i64 x.b.time, .slice va rn vc] 40 (0, 0)) := fun V h => by rw [← hPX] at h; exact h.2.2.1
            have hPD : ∀ V, PX V → RcsRd V (.slice va rn vc) bt.recs := fun V h => by rw [← hPX] at h; exact h.2.2.2
            rw [hPX] at hq6
            have HPX := Lib.hid (And.intro hPA (And.intro hPB (And.intro hPC hPD)))
            clear hPX hPA hPB hPC hPD
            have H6 := Lib.hid (And.intro hq6 (And.intro hpw5 (And.intro hal5 (And.intro hpf5 (And.intro hpre (And.intro hsz5 (And.intro hsl5 hll5)))))))
            have HBT := Lib.hid (And.intro hbl (And.intro hbv hbb))
            clear hrn hq6 hq5 hpw5 hal5 hpf5 hpre hsz5 hsl5 hll5 hbx hev hbn hnb hy hyb hor hbc hbt hbl hbv hbb hbc5 hzx hzn hzc hzy hnc HX H5
            go_upto_block 2 with fail
            go_cut [9, 10, 14] from 64 to 91 (fun v9 v10 v14 wd => PwS w2 b mb sz (i + 1) sb (fun V => V.cell? ⟨nb, 10, none⟩ = some (.slice fa x.fates.length fc)) v9 v10 v14 wd)
            case first =>
              cases hk1 : (x.kind == 1)
              case true =>
                obtain ⟨hq6, hpw5, hal5, hpf5, hpre, hsz5, hsl5, hll5⟩ := H6.out
                obtain ⟨hbl, hbv, hbb⟩ := HBT.out
                have hap := appS_pw bt hpw5 (by rw [hsz5]; exact hsi.1)
                obtain ⟨r6, hr6⟩ : ∃ r6, appS t5 x5 bt = r6 := ⟨_, rfl⟩
                rw [hr6] at hap
                have hyc := HPX.out.2.2.1 _ hq6.p
                have hcl : Calls Tryz.prog 33 #[.pointer (some ⟨sb, 0, none⟩), .agg #[.int .i64 ev, .int .i64 x.b.count, .int .i64 x.b.prod, .int .i64 x.b.seq, .int .i64 x.b.time, .slice va rn vc]] wc fun e w' => e = .returned (.int .i64 r6.2.2) ∧ DqR w2 sb b mb PX (.slice ga gn gc) lg r6.2.1 r6.1 w' := by
                  rw [← hbv]
                  exact hq6.act (fun S L h => by have := StAppend_any H1.out.1 h (B := bt) (rv := .slice va rn vc) (HPX.out.2.2.2 _ hq6.p) (by omega); rw [hr6] at this; exact this)
                have HCL := Lib.hid hcl
                have y0 := cells_of hyc 0 _ rfl
                have y1 := cells_of hyc 1 _ rfl
                have y2 := cells_of hyc 2 _ rfl
                have y3 := cells_of hyc 3 _ rfl
                have y4 := cells_of hyc 4 _ rfl
                have y5 := cells_of hyc 5 _ rfl
                have HAP := Lib.hid hap
                clear hcl hap hyc hq6 hpw5 hal5 hpf5 hpre hsz5 hsl5 hll5 hbl hbv hbb hr6
                go_wp2_with fail
                refine HCL.out.mono ?_
                rintro e wd ⟨rfl, hqd⟩
                clear y0 y1 y2 y3 y4 y5 HCL
                obtain ⟨-, hpw5, hal5, hpf5, hpre, hsz5, hsl5, hll5⟩ := H6.out
                obtain ⟨hbl, hbv, hbb⟩ := HBT.out
                obtain ⟨hroom, hp6, hs6, hcase⟩ := HAP.out
                obtain ⟨t6, x6, c6⟩ := r6
                simp only at hqd hroom hp6 hs6 hcase
                have hyd := HPX.out.2.2.1 _ hqd.p
                have hlsl : ls.length ≤ lg.length := by have := congrArg List.length hpf5; rw [List.length_take] at this; omega
                have htk : (lg ++ [bt]).take ls.length = ls := by rw [List.take_append_of_le_length hlsl]; exact hpf5
                clear HAP hbl hbv
                rcases hcase with ⟨h10, hdn, har, s, hdk, hsl, hal⟩ | ⟨h0, hpw6, hal6, hsl6⟩ | ⟨hn0, hn10, hpw6, hsg6⟩
                · subst h10
                  obtain ⟨xs, hrow, hfin⟩ := hqd.push (rv := .slice va rn vc) (bt := bt) (fun V h => HPX.out.2.2.2 V h)
                  obtain ⟨e1, e2, e3, e4, e5⟩ := hbb
                  rw [e1, e2, e3, e4, e5] at hfin
                  have hbse : ∀ o, w2.heap.size ≤ (wd.alloc o).heap.size := fun o => by have := hqd.base.size; simp only [World.size_alloc]; omega
                  have hlg : lg.length ≤ 60 := by omega
                  have hend : ∀ g c12 w7 o, w7.ownsRow w2.heap.size 40 6 (.slice (some ⟨g, 0, none⟩) (lg.length + 1) c12) (lg.length + 1) (xs ++ [.int .i64 ev, .int .i64 x.b.count, .int .i64 x.b.prod, .int .i64 x.b.seq, .int .i64 x.b.time, .slice va rn vc]) → (wd.alloc o).grownBy w7 (Value.slice ga gn gc).ownBlock → ((Value.slice ga gn gc).ownBlock = some g ∨ g = (wd.alloc o).heap.size) → PwS w2 b mb sz (i + 1) sb (fun V => V.cell? ⟨nb, 10, none⟩ = some (.slice fa x.fates.length fc)) (.slice sa sn sc) (.slice (some ⟨g, 0, none⟩) (lg.length + 1) c12) (.int .i64 10) w7 := by
                    intro g c12 w7 o k1 k2 k3
                    have hdq := hfin g c12 w7 o k1 k2 k3
                    refine .inr ⟨rfl, t6, s, ls, lg ++ [bt], hdq.tqR.imp (fun V h => ⟨HPX.out.1 V h, HPX.out.2.1 V h⟩), by rw [← hpre]; exact hdk, fun _ => har, ?_, htk, by omega, by rw [List.length_append]; simp; omega⟩
                    rcases hal with hal | hal
                    · rw [hal, hal5, List.take_left]
                    · rw [hal, hal5, List.take_length]
                  have HROW := Lib.hid hrow
                  have HBSE := Lib.hid hbse
                  have HEND := Lib.hid hend
                  have HYD := Lib.hid hyd
                  clear hrow hbse hend hfin hqd hyd hpw5 hal5 hpf5 hpre hsz5 hsl5 hll5 hdk hsl hal hdn har hlsl htk e1 e2 e3 e4 e5 H6 HBT hroom hp6 hs6
                  obtain ⟨i0, hi7, hz0, hz1, hz2⟩ := info_parts info_Batch6
                  have y0 := cells_of HYD.out 0 _ rfl
                  have y1 := cells_of HYD.out 1 _ rfl
                  have y2 := cells_of HYD.out 2 _ rfl
                  have y3 := cells_of HYD.out 3 _ rfl
                  have y4 := cells_of HYD.out 4 _ rfl
                  have y5 := cells_of HYD.out 5 _ rfl
                  go_wp2_with (first
                    | (at_builtin; refine wpList_append_lies _ rfl _ _ 89 rfl w2.heap.size 40 i0 _ 6 64 und_Batches6 hi7 hz0 hz1 hz2 rfl (by decide) (.slice ga gn gc) lg.length xs rfl (HROW.out _) _ 1 1 [.int .i64 ev, .int .i64 x.b.count, .int .i64 x.b.prod, .int .i64 x.b.seq, .int .i64 x.b.time, .slice va rn vc] rfl rfl (World.news_of_block (cs := #[.int .i64 ev, .int .i64 x.b.count, .int .i64 x.b.prod, .int .i64 x.b.seq, .int .i64 x.b.time, .slice va rn vc]) (t := 40) (fr := (0, 0)) (heap_alloc_new wd _)) (by simp [Value.oneCell']) (by decide) (by unfold maxLen; omega) (by omega) (HBSE.out _) _ rfl ?_; intro g12 c12 w12 hown12 hgrow12 hat12 hlt12; have HF := Lib.hid (HEND.out _ _ _ _ hown12 hgrow12 hat12); clear hown12 hgrow12 hat12 hlt12))
                  go_meet
                  exact HF.out
                · subst h0
                  obtain ⟨xs, hrow, hfin⟩ := hqd.push (rv := .slice va rn vc) (bt := bt) (fun V h => HPX.out.2.2.2 V h)
                  obtain ⟨e1, e2, e3, e4, e5⟩ := hbb
                  rw [e1, e2, e3, e4, e5] at hfin
                  have hbse : ∀ o, w2.heap.size ≤ (wd.alloc o).heap.size := fun o => by have := hqd.base.size; simp only [World.size_alloc]; omega
                  have hlg : lg.length ≤ 60 := by omega
                  have hend : ∀ g c12 w7 o, w7.ownsRow w2.heap.size 40 6 (.slice (some ⟨g, 0, none⟩) (lg.length + 1) c12) (lg.length + 1) (xs ++ [.int .i64 ev, .int .i64 x.b.count, .int .i64 x.b.prod, .int .i64 x.b.seq, .int .i64 x.b.time, .slice va rn vc]) → (wd.alloc o).grownBy w7 (Value.slice ga gn gc).ownBlock → ((Value.slice ga gn gc).ownBlock = some g ∨ g = (wd.alloc o).heap.size) → PwS w2 b mb sz (i + 1) sb (fun V => V.cell? ⟨nb, 10, none⟩ = some (.slice fa x.fates.length fc)) (.slice sa sn sc) (.slice (some ⟨g, 0, none⟩) (lg.length + 1) c12) (.int .i64 0) w7 := by
                    intro g c12 w7 o k1 k2 k3
                    have hdq := hfin g c12 w7 o k1 k2 k3
                    exact .inl ⟨0, rfl, by decide, x6, t6, ls, lg ++ [bt], hdq.imp (fun V h => HPX.out.1 V h), hpw6, by rw [hal6, hal5], htk, hp6.trans hpre, hs6.trans hsz5, by omega, by rw [List.length_append]; simp; omega⟩
                  have HROW := Lib.hid hrow
                  have HBSE := Lib.hid hbse
                  have HEND := Lib.hid hend
                  have HYD := Lib.hid hyd
                  clear hrow hbse hend hfin hqd hyd hpw5 hal5 hpf5 hpre hsz5 hsl5 hll5 hpw6 hal6 hsl6 hlsl htk e1 e2 e3 e4 e5 H6 HBT hroom hp6 hs6
                  obtain ⟨i0, hi7, hz0, hz1, hz2⟩ := info_parts info_Batch6
                  have y0 := cells_of HYD.out 0 _ rfl
                  have y1 := cells_of HYD.out 1 _ rfl
                  have y2 := cells_of HYD.out 2 _ rfl
                  have y3 := cells_of HYD.out 3 _ rfl
                  have y4 := cells_of HYD.out 4 _ rfl
                  have y5 := cells_of HYD.out 5 _ rfl
                  go_wp2_with (first
                    | (at_builtin; refine wpList_append_lies _ rfl _ _ 89 rfl w2.heap.size 40 i0 _ 6 64 und_Batches6 hi7 hz0 hz1 hz2 rfl (by decide) (.slice ga gn gc) lg.length xs rfl (HROW.out _) _ 1 1 [.int .i64 ev, .int .i64 x.b.count, .int .i64 x.b.prod, .int .i64 x.b.seq, .int .i64 x.b.time, .slice va rn vc] rfl rfl (World.news_of_block (cs := #[.int .i64 ev, .int .i64 x.b.count, .int .i64 x.b.prod, .int .i64 x.b.seq, .int .i64 x.b.time, .slice va rn vc]) (t := 40) (fr := (0, 0)) (heap_alloc_new wd _)) (by simp [Value.oneCell']) (by decide) (by unfold maxLen; omega) (by omega) (HBSE.out _) _ rfl ?_; intro g12 c12 w12 hown12 hgrow12 hat12 hlt12; have HF := Lib.hid (HEND.out _ _ _ _ hown12 hgrow12 hat12); clear hown12 hgrow12 hat12 hlt12))
                  go_meet
                  exact HF.out
                · have hend : PwS w2 b mb sz (i + 1) sb (fun V => V.cell? ⟨nb, 10, none⟩ = some (.slice fa x.fates.length fc)) (.slice sa sn sc) (.slice ga gn gc) (.int .i64 c6) wd :=
                    .inl ⟨c6, rfl, hn10, x6, t6, ls, lg, hqd.imp (fun V h => HPX.out.1 V h), hpw6, by rw [hsg6]; exact hal5, hpf5, hp6.trans hpre, hs6.trans hsz5, by rw [hsg6]; omega, by omega⟩
                  have HEND := Lib.hid hend
                  have n1 : (c6 == 0) = false := by simpa using hn0
                  have n2 : (c6 == 10) = false := by simpa using hn10
                  clear hend hqd hyd hpw5 hal5 hpf5 hpre hsz5 hsl5 hll5 hpw6 hsg6 hlsl htk hbb H6 HBT hroom hp6 hs6
                  go_wp2_with fail
                  go_meet
                  exact HEND.out
              case false =>
                cases hk2 : (x.kind == 2)
                case true =>
                  obtain ⟨hq6, hpw5, hal5, hpf5, hpre, hsz5, hsl5, hll5⟩ := H6.out
                  have hap := syncS_pw hpw5
                  obtain ⟨r6, hr6⟩ : ∃ r6, syncS t5 x5 = r6 := ⟨_, rfl⟩
                  rw [hr6] at hap
                  have hcl : Calls Tryz.prog 36 #[.pointer (some ⟨sb, 0, none⟩)] wc fun e w' => e = .returned (.int .i64 r6.2.2) ∧ DqR w2 sb b mb PX (.slice ga gn gc) lg r6.2.1 r6.1 w' :=
                    hq6.act (fun S L h => by have := StSync_any H1.out.1 h; rw [hr6] at this; exact this)
                  have HCL := Lib.hid hcl
                  have HAP := Lib.hid hap
                  clear hcl hap hq6 hpw5 hal5 hpf5 hpre hsz5 hsl5 hll5 hr6
                  go_wp2_with fail
                  refine HCL.out.mono ?_
                  rintro e wd ⟨rfl, hqd⟩
                  obtain ⟨-, hpw5, hal5, hpf5, hpre, hsz5, hsl5, hll5⟩ := H6.out
                  obtain ⟨hroom, hcase⟩ := HAP.out
                  obtain ⟨t6, x6, c6⟩ := r6
                  simp only at hqd hroom hcase
                  clear HCL HAP
                  rcases hcase with ⟨h0, rfl, hpw6, hsr⟩ | ⟨h10, hdn, har, hdk⟩
                  · subst h0
                    obtain ⟨news, hrd, hone, hfin⟩ := hqd.copy
                    obtain ⟨nd, hnd⟩ : ∃ nd, wd.heap.size = nd := ⟨_, rfl⟩
                    obtain ⟨we, hwe⟩ : ∃ we, we = wd.alloc (.cells #[] 40) := ⟨_, rfl⟩
                    have hbe : Below wd.heap.size wd we := by rw [hwe]; exact below_alloc _ _
                    have hown : we.ownsRow nd 40 6 (.slice (some ⟨nd, 0, none⟩) 0 0) 0 [] := by
                      rw [hwe, ← hnd]
                      exact World.ownsRow_made wd #[] 0 (Nat.le_refl _) (Nat.zero_le _) rfl
                    have hlg : lg.length ≤ 60 := by omega
                    have hze : nd ≤ we.heap.size := by rw [← hnd]; exact hbe.size
                    have hend : ∀ a' c' w7, w7.ownsRow nd 40 6 (.slice a' lg.length c') lg.length news → we.grownBy w7 (Value.slice (some ⟨nd, 0, none⟩) 0 0).ownBlock →
                        PwS w2 b mb sz (i + 1) sb (fun V => V.cell? ⟨nb, 10, none⟩ = some (.slice fa x.fates.length fc)) (.slice a' lg.length c') (.slice ga gn gc) (.int .i64 0) w7 := by
                      intro a' c' w7 k1 k2
                      have hb7 : Below wd.heap.size wd w7 := hbe.grown k2 (by rw [hnd]; exact hze) (fun q e => by simp [Value.ownBlock] at e; omega)
                      rw [← hnd] at k1
                      exact .inl ⟨0, rfl, by decide, x6, t6, lg, lg, hfin a' c' w7 k1 hb7, by rw [← hal5]; exact hpw6, hal5, List.take_length, hpre, hsz5, by omega, by omega⟩
                    have hrde := hrd we hbe
                    have HRD := Lib.hid (And.intro hrde (And.intro hone (And.intro hown hze)))
                    have HEND := Lib.hid hend
                    clear hrd hone hfin hbe hown hze hend hrde hqd hpw5 hal5 hpf5 hpre hsz5 hsl5 hll5 hpw6 hsr H6 HBT hroom
                    obtain ⟨i0, hi7, hz0, hz1, hz2⟩ := info_parts info_Batch6
                    go_wp2_with (first
                      | (at_builtin; refine wpList_append_any rfl _ _ 89 rfl nd 40 i0 _ 6 64 und_Batches6 hi7 hz0 hz1 hz2 rfl (by decide) (.slice (some ⟨nd, 0, none⟩) 0 0) 0 [] rfl (hwe ▸ HRD.out.2.2.1) (.slice ga gn gc) lg.length news rfl (hwe ▸ HRD.out.1) HRD.out.2.1 (by unfold maxLen; omega) (by omega) (hwe ▸ HRD.out.2.2.2) ?_; intro a9 c9 w9 hown9 hgrow9 hat9; rw [← hwe] at hgrow9; rw [Nat.zero_add] at hown9 ⊢; have HF := Lib.hid (HEND.out _ _ _ hown9 hgrow9); clear hown9 hgrow9 hat9))
                    go_meet
                    exact HF.out
                  · subst h10
                    have hend : PwS w2 b mb sz (i + 1) sb (fun V => V.cell? ⟨nb, 10, none⟩ = some (.slice fa x.fates.length fc)) (.slice sa sn sc) (.slice ga gn gc) (.int .i64 10) wd :=
                      .inr ⟨rfl, t6, x5.segs, ls, lg, hqd.tqR.imp (fun V h => ⟨HPX.out.1 V h, HPX.out.2.1 V h⟩), by rw [← hpre]; exact hdk, fun _ => har, by rw [hal5, List.take_length], hpf5, by omega, by omega⟩
                    have HEND := Lib.hid hend
                    clear hend hqd hpw5 hal5 hpf5 hpre hsz5 hsl5 hll5 hdk hdn har H6 HBT hroom
                    go_wp2_with fail
                    go_meet
                    exact HEND.out
                case false =>
                  cases hk7 : (x.kind == 7)
                  case true =>
                    obtain ⟨hq6, hpw5, hal5, hpf5, hpre, hsz5, hsl5, hll5⟩ := H6.out
                    have hof := hq6.tqR.off
                    have HOF := Lib.hid hof
                    clear hof hq6 hpw5 hal5 hpf5 hpre hsz5 hsl5 hll5
                    go_wp2_with fail
                    refine HOF.out.mono ?_
                    rintro e wd ⟨rfl, hqd⟩
                    obtain ⟨-, hpw5, hal5, hpf5, hpre, hsz5, hsl5, hll5⟩ := H6.out
                    have hend : PwS w2 b mb sz (i + 1) sb (fun V => V.cell? ⟨nb, 10, none⟩ = some (.slice fa x.fates.length fc)) (.slice sa sn sc) (.slice ga gn gc) (.int .i64 10) wd :=
                      .inr ⟨rfl, offT t5, x5.segs, ls, lg, hqd.imp (fun V h => ⟨HPX.out.1 V h, HPX.out.2.1 V h⟩), by rw [offT_files, ← hpre]; exact hpw5.disk, fun _ => offT_armed (fun h => by rw [hpw5.down] at h; cases h), by rw [hal5, List.take_length], hpf5, by omega, by omega⟩
                    have HEND := Lib.hid hend
                    clear hend hqd hpw5 hal5 hpf5 hpre hsz5 hsl5 hll5 H6 HBT HOF
                    go_wp2_with fail
                    go_meet
                    exact HEND.out
                  case false =>
                    obtain ⟨hq6, hpw5, hal5, hpf5, hpre, hsz5, hsl5, hll5⟩ := H6.out
                    have hend : PwS w2 b mb sz (i + 1) sb (fun V => V.cell? ⟨nb, 10, none⟩ = some (.slice fa x.fates.length fc)) (.slice sa sn sc) (.slice ga gn gc) (.int .i64 0) wc :=
                      .inl ⟨0, rfl, by decide, x5, t5, ls, lg, hq6.imp (fun V h => HPX.out.1 V h), hpw5, hal5, hpf5, hpre, hsz5, by omega, by omega⟩
                    have HEND := Lib.hid hend
                    clear hend hq6 hpw5 hal5 hpf5 hpre hsz5 hsl5 hll5 H6 HBT
                    go_wp2_with fail
                    go_meet
                    exact HEND.out
            case rest =>
              clear H6 HBT HPX hk0
              rcases hcut with ⟨c, rfl, hc10, hpr⟩ | ⟨rfl, hpd⟩
              · have hc1 : (c != 10) = true := by simpa using hc10
                have HPR := Lib.hid hpr
                clear hpr hc10
                go_wp2_with fail
                go_roundg (A.length - (i + 1))
                case measure => omega
                case rel => exact ⟨i + 1, n, sb, by omega, by omega, by omega, rfl, by go_num, rfl, rfl, HPR.out⟩
              · obtain ⟨t, s, ls, lg, hq, hdk, har, hpf, hps, hsl, hll⟩ := hpd
                have hof := hq.off
                have HOF := Lib.hid hof
                have HD := Lib.hid (And.intro hdk (And.intro har (And.intro hpf (And.intro hps (And.intro hsl hll)))))
                obtain ⟨sa2, sc2, rfl, -⟩ := BsRd.cells hq.p.1
                obtain ⟨ga2, gc2, rfl⟩ := hq.shape
                clear hof hq hdk har hpf hps hsl hll
                go_wp2_with fail
                refine HOF.out.mono ?_
                rintro e wd ⟨rfl, hqd⟩
                have hcell := hqd.p.2
                have hon := hqd.on HFI.out
                have HON := Lib.hid hon
                clear hon hqd HOF
                go_wp2_with fail
                refine HON.out.mono ?_
                rintro e we ⟨rfl, t2, hat, hqe⟩
                obtain ⟨hdk, har, hpf, hps, hsl, hll⟩ := HD.out
                obtain ⟨t3, s3, j, hop, hal3, hk3, hl3, hr3, ha3, hpw3⟩ := loss_pw (size := sz) hdk har hat
                have ep : bs partB = ⟨#[112, 97, 114, 116]⟩ := rfl
                have hopn := hqe.openSt H1.out.1 (pre := partB) (size := sz) (by decide) ⟨hsi.1, by omega⟩ hop
                rw [ep] at hopn
                have HOP := Lib.hid hopn
                have HP3 := Lib.hid (And.intro hal3 (And.intro hk3 (And.intro hl3 hpw3)))
                have hsz := HSZ.out
                unfold sizeS at hsz
                clear hopn hqe hat hdk har hpf hps hsl hll hop hal3 hk3 hl3 hr3 ha3 hpw3 ep HON hcell
                go_wp2_with fail
                refine HOP.out.mono ?_
                rintro e wf ⟨ub, rfl, hqf⟩
                obtain ⟨hal3, hk3, hl3, hpw3⟩ := HP3.out
                obtain ⟨hdk, har, hpf, hps, hsl, hll⟩ := HD.out
                have hle3 : (allB s3).length ≤ (allB s).length := by rw [hal3, List.length_take]; omega
                have hles : (allB s).length ≤ lg.length := by have := congrArg List.length hpf; rw [List.length_take] at this; omega
                have hall := hqf.allHd (by exact hpw3.disk.row) (by simp only; omega) (by simp only; omega)
                simp only at hall
                obtain ⟨now, hnow⟩ : ∃ now, allB s3 = now := ⟨_, rfl⟩
                rw [hnow] at hall
                have HALL := Lib.hid hall
                have HN := Lib.hid hnow
                clear hall hqf hsz hal3 hk3 hl3 hpw3 hdk har hpf hps hsl hll hle3 hles hnow HOP
                go_wp2_with fail
                refine HALL.out.mono ?_
                rintro e wg ⟨va2, vc2, m, rfl, hm, hqg⟩
                obtain ⟨hal3, hk3, hl3, hpw3⟩ := HP3.out
                obtain ⟨hdk, har, hpf, hps, hsl, hll⟩ := HD.out
                have hle3 : (allB s3).length ≤ (allB s).length := by rw [hal3, List.length_take]; omega
                have hles : (allB s).length ≤ lg.length := by have := congrArg List.length hpf; rw [List.length_take] at this; omega
                rw [HN.out] at hal3 hk3 hle3 hpw3
                have hb1 : now.take ls.length = ls := by
                  have hkk := hdk.safe.1
                  have h1 : (allB s).take ls.length = ls := by rw [← hpf, List.take_take, Nat.min_eq_left hkk]; exact hps
                  rw [hal3, List.take_take]
                  have hj : ls.length ≤ j ∨ (allB s).length ≤ j := by rw [hal3, List.length_take] at hk3; omega
                  rcases hj with hj | hj
                  · rw [Nat.min_eq_left hj]; exact h1
                  · rw [Nat.min_eq_left (by omega)]; exact h1
                have hb2 : lg.take now.length = now := by
                  have h1 : (allB s).take now.length = now := take_len hal3.symm
                  rw [← hpf, List.take_take, Nat.min_eq_left hle3] at h1
                  exact h1
                have hbg1 := L7begins_any hqg.p.1.1 hqg.p.2.rd (by rw [hm]; exact hb1)
                have HBG := Lib.hid hbg1
                have HQG := Lib.hid (And.intro hqg (And.intro hm (And.intro hb2 (And.intro hpw3 (And.intro hl3 (And.intro hle3 (And.intro hles (And.intro hsl hll))))))))
                clear hbg1 hqg hm hb1 hb2 hal3 hk3 hl3 hpw3 hdk har hpf hps hsl hll hle3 hles HD HP3 HALL
                go_wp2_with fail
                refine HBG.out.mono ?_
                rintro e wh ⟨rfl, hbh⟩
                obtain ⟨hqg, hm, hb2, -⟩ := HQG.out
                have hqh := hqg.below hbh
                have hbg2 := L7begins_any hqh.p.2.rd hqh.rd (by rw [hm]; exact hb2)
                have HBG2 := Lib.hid hbg2
                have HBH := Lib.hid hbh
                clear hbg2 hqh hqg hm hb2 hbh HBG
                go_wp2_with fail
                refine HBG2.out.mono ?_
                rintro e wi ⟨rfl, hbi⟩
                obtain ⟨hqg, hm, -, hpw3, hl3, hle3, hles, hsl, hll⟩ := HQG.out
                have hqi := (hqg.below HBH.out).below hbi
                obtain ⟨hone, hfin⟩ := hqi.seat (m := m) (v := .slice va2 now.length vc2) (fun V h => h.2)
                have hml : m.length = now.length := by rw [← hm, List.length_map]
                obtain ⟨nl, hnl⟩ : ∃ nl, now.length = nl := ⟨_, rfl⟩
                obtain ⟨nd, hnd⟩ : ∃ nd, wi.heap.size = nd := ⟨_, rfl⟩
                obtain ⟨we, hwe⟩ : ∃ we, we = wi.alloc (.cells #[] 40) := ⟨_, rfl⟩
                have hbe : Below wi.heap.size wi we := by rw [hwe]; exact below_alloc _ _
                have hown : we.ownsRow nd 40 6 (.slice (some ⟨nd, 0, none⟩) 0 0) 0 [] := by
                  rw [hwe, ← hnd]
                  exact World.ownsRow_made wi #[] 0 (Nat.le_refl _) (Nat.zero_le _) rfl
                have hze : nd ≤ we.heap.size := by rw [← hnd]; exact hbe.size
                have hrde : Rd we 6 (.slice va2 nl vc2) nl (bCells m) := by
                  have h1 := (hqi.p.2.1).below hbe
                  rw [hml, hnl] at h1
                  exact h1
                have hnl60 : nl ≤ 60 := by omega
                rw [hml, hm, hnl] at hfin
                have hend : ∀ a' c' w7, w7.ownsRow nd 40 6 (.slice a' nl c') nl (bCells m) → we.grownBy w7 (Value.slice (some ⟨nd, 0, none⟩) 0 0).ownBlock → DqR w2 ub b mb (fun V => BsRd V (.slice va2 nl vc2) now) (.slice a' nl c') now ⟨partB, sz, s3, t2.life, false⟩ t3 w7 := by
                  intro a' c' w7 k1 k2
                  have hb7 : Below wi.heap.size wi w7 := hbe.grown k2 (by rw [hnd]; exact hze) (fun q e => by simp [Value.ownBlock] at e; omega)
                  rw [← hnd] at k1
                  exact hfin a' c' w7 k1 hb7
                have hfin2 : ∀ a' c' w7 (nn : Nat), DqR w2 ub b mb (fun V => BsRd V (.slice va2 nl vc2) now) (.slice a' nl c') now ⟨partB, sz, s3, t2.life, false⟩ { t3 with armed := nn } w7 → PwR w2 b mb sz (i + 1) ub (.slice va2 nl vc2) (.slice a' nl c') w7 := fun a' c' w7 nn h =>
                  ⟨_, _, now, now, h, hpw3.arm nn, HN.out, List.take_length, rfl, rfl, by simp only; omega, by omega⟩
                have hfin3 : ∀ a' c' w7, DqR w2 ub b mb (fun V => BsRd V (.slice va2 nl vc2) now) (.slice a' nl c') now ⟨partB, sz, s3, t2.life, false⟩ t3 w7 → PwR w2 b mb sz (i + 1) ub (.slice va2 nl vc2) (.slice a' nl c') w7 := fun a' c' w7 h =>
                  ⟨_, _, now, now, h, hpw3, HN.out, List.take_length, rfl, rfl, by simp only; omega, by omega⟩
                have HRD := Lib.hid (And.intro hrde (And.intro hone (And.intro hown hze)))
                have HEND := Lib.hid hend
                have HF2 := Lib.hid (And.intro hfin2 hfin3)
                rw [hnl]
                clear hone hfin hml hbe hown hze hrde hend hfin2 hfin3 hqi hqg hm hpw3 hl3 hle3 hles hsl hll hbi HQG HBH HBG2 HN hnl
                obtain ⟨i0, hi7, hz0, hz1, hz2⟩ := info_parts info_Batch6
                by_cases hlp : n + 1 < pw.length ∧ n + 1 < 5
                · obtain ⟨hlp, hl5⟩ := hlp
                  obtain ⟨pb, po, rfl, hcl⟩ := HPC.out (n + 1) hlp
                  have j5 : (n : Int) + 1 < (pw.length : Int) := by omega
                  have j6 : (n : Int) + 1 < 5 := by omega
                  have j7 : (0 : Int) ≤ (n : Int) + 1 := by omega
                  have hto : ((n : Int) + 1).toNat = n + 1 := by omega
                  have j8 : i + 1 ≤ A.length := by omega
                  have j9 : n + 1 ≤ i + 1 := by omega
                  have j10 : A.length - (i + 1) < A.length - i := by omega
                  obtain ⟨p0, hp0⟩ : ∃ p0, pw[n + 1] = p0 := ⟨_, rfl⟩
                  rw [hp0] at hcl
                  obtain ⟨k, hm, hk40⟩ := u64_mod7 p0 40 (by decide)
                  have HM := Lib.hid hm
                  have HCL := Lib.hid hcl
                  clear hm hp0 hcl
                  have hI : I64 (k : Int) := i64_small (by omega)
                  have HU := Lib.hid (show wrap64 (k : Int) = (k : Int) from IntWalk.wrap64_in _ hI)
                  go_upto_if 138 with (first
                    | (at_builtin; refine wpList_append_any rfl _ _ 89 rfl nd 40 i0 _ 6 64 und_Batches6 hi7 hz0 hz1 hz2 rfl (by decide) (.slice (some ⟨nd, 0, none⟩) 0 0) 0 [] rfl (hwe ▸ HRD.out.2.2.1) (.slice va2 nl vc2) nl (bCells m) rfl (hwe ▸ HRD.out.1) HRD.out.2.1 (by unfold maxLen; omega) (by omega) (hwe ▸ HRD.out.2.2.2) ?_; intro a9 c9 w9 hown9 hgrow9 hat9; rw [← hwe] at hgrow9; rw [Nat.zero_add] at hown9 ⊢; have HF := Lib.hid (HEND.out _ _ _ hown9 hgrow9); clear hown9 hgrow9 hat9))
                  have har := HF.out.arm (n := (k : Int)) hI
                  have hu := HU.out
                  have hc0 := HCL.out _ HF.out.base
                  have hm := HM.out
                  have HAR := Lib.hid har
                  clear har HCL HM
                  go_wp2_with fail
                  refine HAR.out.mono ?_
                  rintro e wj ⟨rfl, hqj⟩
                  have hpr := HF2.out.1 _ _ _ _ hqj
                  have HPR := Lib.hid hpr
                  clear hpr hqj hm HAR hc0
                  go_wp2_with fail
                  go_roundg (A.length - (i + 1))
                  case measure => exact j10
                  case rel => exact ⟨i + 1, n + 1, ub, j8, hi6, j9, rfl, by go_num, by go_num, rfl, HPR.out⟩
                · have j8 : i + 1 ≤ A.length := by omega
                  have j9 : n + 1 ≤ i + 1 := by omega
                  have j10 : A.length - (i + 1) < A.length - i := by omega
                  by_cases hl1 : (n : Int) + 1 < (pw.length : Int)
                  · have j6 : ¬ (n : Int) + 1 < 5 := by omega
                    go_upto_if 138 with (first
                      | (at_builtin; refine wpList_append_any rfl _ _ 89 rfl nd 40 i0 _ 6 64 und_Batches6 hi7 hz0 hz1 hz2 rfl (by decide) (.slice (some ⟨nd, 0, none⟩) 0 0) 0 [] rfl (hwe ▸ HRD.out.2.2.1) (.slice va2 nl vc2) nl (bCells m) rfl (hwe ▸ HRD.out.1) HRD.out.2.1 (by unfold maxLen; omega) (by omega) (hwe ▸ HRD.out.2.2.2) ?_; intro a9 c9 w9 hown9 hgrow9 hat9; rw [← hwe] at hgrow9; rw [Nat.zero_add] at hown9 ⊢; have HF := Lib.hid (HEND.out _ _ _ hown9 hgrow9); clear hown9 hgrow9 hat9))
                    have hpr := HF2.out.2 _ _ _ HF.out
                    have HPR := Lib.hid hpr
                    clear hpr HF
                    go_wp2_with fail
                    go_roundg (A.length - (i + 1))
                    case measure => exact j10
                    case rel => exact ⟨i + 1, n + 1, ub, j8, hi6, j9, rfl, by go_num, by go_num, rfl, HPR.out⟩
                  · have j6 : ¬ (n : Int) + 1 < (pw.length : Int) := hl1
                    go_upto_if 138 with (first
                      | (at_builtin; refine wpList_append_any rfl _ _ 89 rfl nd 40 i0 _ 6 64 und_Batches6 hi7 hz0 hz1 hz2 rfl (by decide) (.slice (some ⟨nd, 0, none⟩) 0 0) 0 [] rfl (hwe ▸ HRD.out.2.2.1) (.slice va2 nl vc2) nl (bCells m) rfl (hwe ▸ HRD.out.1) HRD.out.2.1 (by unfold maxLen; omega) (by omega) (hwe ▸ HRD.out.2.2.2) ?_; intro a9 c9 w9 hown9 hgrow9 hat9; rw [← hwe] at hgrow9; rw [Nat.zero_add] at hown9 ⊢; have HF := Lib.hid (HEND.out _ _ _ hown9 hgrow9); clear hown9 hgrow9 hat9))
                    have hpr := HF2.out.2 _ _ _ HF.out
                    have HPR := Lib.hid hpr
                    clear hpr HF
                    go_wp2_with fail
                    go_roundg (A.length - (i + 1))
                    case measure => exact j10
                    case rel => exact ⟨i + 1, n + 1, ub, j8, hi6, j9, rfl, by go_num, by go_num, rfl, HPR.out⟩
        · have H5 := Lib.hid hro
          clear hro
          go_upto_region 14 with fail
          go_cut [50] from 43 to 49 (fun v50 wc => v50 = .bool false ∧ wc = wr)
          case first =>
            by_cases hit : i < A.length
            · have j1 : (i : Int) < (A.length : Int) := by omega
              have j2 : ¬ (i : Int) < 60 := by omega
              go_wp2_with fail
              go_meet
              exact ⟨rfl, rfl⟩
            · have j1 : ¬ (i : Int) < (A.length : Int) := by omega
              go_wp2_with fail
              go_meet
              exact ⟨rfl, rfl⟩
          case rest =>
            obtain ⟨rfl, hwc⟩ := hcut
            subst hwc
            obtain ⟨x5, t5, ls, lg, hq5, hpw5, hal5, hpf5, hpre, hsz5, hsl5, hll5⟩ := H5.out
            have hall := hq5.all hpw5.disk.row (by omega) (by rw [hal5]; omega)
            rw [hal5] at hall
            have HALL := Lib.hid hall
            clear hall hq5 hpw5 hal5 hpf5 hpre hsz5 hsl5 hll5 H5
            go_wp2_with fail
            refine HALL.out.mono ?_
            rintro e wd ⟨⟨va, vc, rfl, hv⟩, hqd⟩
            have hsm := hqd.same hv
            have hbd := hqd.base
            have HSM := Lib.hid hsm
            clear hsm hqd hv hbd HALL
            go_wp2_with fail
            refine HSM.out.mono ?_
            rintro e we ⟨rfl, hqe⟩
            have hend := H1.out.2.2.trans (hqe.base.mono H1.out.2.2.size)
            have HEND := Lib.hid hend
            clear hend hqe HSM
            go_wp2_with fail
            go_ret
            exact ⟨rfl, HEND.out⟩
end Go.Proofs.YtcpaaleogmiamaaGreatDoor
