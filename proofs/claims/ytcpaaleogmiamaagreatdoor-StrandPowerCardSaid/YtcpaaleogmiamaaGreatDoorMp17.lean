/- A strand and its tape; the walk of Sync. -/
/- The walks of crate.Good and what it calls. -/
import Derived.Test.YtcpaaleogmiamaaGreatDoorMp14
import Derived.Test.YtcpaaleogmiamaaGreatDoorMp16
import Derived.Test.YtcpaaleogmiamaaGreatDoorProg
import Derived.Test.YtcpaaleogmiamaaGreatDoorLedS
namespace Go.Proofs.YtcpaaleogmiamaaGreatDoor
open Go.RowKit

def NamesOk (t : Tp) : Prop := ∀ y ∈ t.files, y.1.length ≤ 32
theorem actT_names {t : Tp} (h : NamesOk t) : NamesOk (actT t).1 := by unfold NamesOk; rw [actT_files]; exact h
theorem updF_names (l : List (List UInt8 × Fl)) (n : List UInt8) (f : Fl → Fl) : (updF l n f).map (·.1) = l.map (·.1) := by
  induction l with
  | nil => rfl
  | cons x l ih =>
    simp only [updF, List.map_cons, List.map_map] at ih ⊢
    split <;> simp_all
theorem NamesOk.of_names {t t' : Tp} (h : NamesOk t) (hn : ∀ n ∈ t'.files.map (·.1), n ∈ t.files.map (·.1) ∨ n.length ≤ 32) : NamesOk t' := by
  intro y hy
  rcases hn y.1 (List.mem_map_of_mem hy) with h1 | h1
  · obtain ⟨z, hz, e⟩ := List.mem_map.1 h1
    rw [← e]; exact h z hz
  · exact h1
theorem appT_names {t : Tp} (h : NamesOk t) (n s : List UInt8) : NamesOk (appT t n s).1 := by
  unfold appT
  split
  · exact h
  · split
    · rename_i hn
      have hl : n.length ≤ 32 := by simp only [isNameB, Bool.and_eq_true, decide_eq_true_eq] at hn; exact hn.2
      split
      · split
        · exact h
        · refine actT_names (h.of_names (fun m hm => ?_))
          simp only [List.map_append, List.mem_append, List.map_cons, List.map_nil, List.mem_singleton] at hm
          exact hm.imp id (fun e => by rw [e]; exact hl)
      · split
        · exact h
        · exact actT_names (h.of_names (fun m hm => .inl (by rw [updF_names] at hm; exact hm)))
    · exact h
theorem syncT_names {t : Tp} (h : NamesOk t) (n : List UInt8) : NamesOk (syncT t n).1 := by
  unfold syncT
  split
  · exact h
  · split
    · exact h
    · split
      · exact (actT_names h).of_names (fun m hm => .inl (by rw [updF_names] at hm; exact hm))
      · exact actT_names h
theorem cutT_names {t : Tp} (h : NamesOk t) (n : List UInt8) (k : Int) : NamesOk (cutT t n k).1 := by
  unfold cutT
  split
  · exact h
  · split
    · exact h
    · split
      · exact h
      · exact actT_names (h.of_names (fun m hm => .inl (by rw [updF_names] at hm; exact hm)))
theorem dropT_names {t : Tp} (h : NamesOk t) (n : List UInt8) : NamesOk (dropT t n).1 := by
  unfold dropT
  split
  · exact h
  · split
    · exact h
    · exact actT_names (h.of_names (fun m hm => .inl (by
        obtain ⟨y, hy, rfl⟩ := List.mem_map.1 hm
        exact List.mem_map_of_mem (List.mem_of_mem_eraseP hy))))

/-- A strand, its tape, above a world that stands. -/
structure Sd (w0 w : World) (S : Nat → Prop) (sb b mb : Nat) (L : TpL) (x : St) (t : Tp) : Prop where
  st : StAt w S sb b x
  tp : TpAt w b mb L t
  apart : ∀ k, TpF b mb L k → ¬ S k
  ok : StOk x
  names : NamesOk t
  base : Below w0.heap.size w0 w
  aboveS : ∀ k, S k → w0.heap.size ≤ k
  aboveT : ∀ k, TpF b mb L k → w0.heap.size ≤ k
abbrev SdF (S : Nat → Prop) (b mb : Nat) (L : TpL) (k : Nat) : Prop := S k ∨ TpF b mb L k
/-- What a strand's act leaves. -/
def SdTo (w0 w : World) (S : Nat → Prop) (sb b mb : Nat) (L : TpL) (r : Tp × St × Int) (e : Ending) (w' : World) : Prop :=
  ∃ S' L', e = .returned (.int .i64 r.2.2) ∧ Sd w0 w' S' sb b mb L' r.2.1 r.1 ∧ Upd (SdF S b mb L) w w' ∧ (∀ k, S' k → S k ∨ w.heap.size ≤ k) ∧ ∀ k ∈ tpBlocks L', k ∈ tpBlocks L ∨ w.heap.size ≤ k
section
variable {w0 w w' : World} {S : Nat → Prop} {sb b mb : Nat} {L L' : TpL} {x : St} {t t' : Tp}
theorem Sd.lt (h : Sd w0 w S sb b mb L x t) : ∀ k, SdF S b mb L k → k < w.heap.size := fun k hk => hk.elim (h.st.lt k) (h.tp.fLt k)
theorem Sd.below (h : Sd w0 w S sb b mb L x t) (hb : Below w.heap.size w w') : Sd w0 w' S sb b mb L x t :=
  ⟨h.st.below hb, h.tp.below hb, h.apart, h.ok, h.names, h.base.trans (hb.mono h.base.size), h.aboveS, h.aboveT⟩
theorem Sd.env (h : Sd w0 w S sb b mb L x t) (hE : Env w0) : Env w := hE.below h.base
theorem TpF.new {w : World} (hn : ∀ k ∈ tpBlocks L', k ∈ tpBlocks L ∨ w.heap.size ≤ k) : ∀ k, TpF b mb L' k → TpF b mb L k ∨ w.heap.size ≤ k := by
  rintro k (rfl | rfl | hk)
  · exact .inl (.inl rfl)
  · exact .inl (.inr (.inl rfl))
  · exact (hn k hk).imp (fun h => .inr (.inr h)) id
/-- The tape is another one. -/
theorem Sd.tape (h : Sd w0 w S sb b mb L x t) (ht : TpAt w' b mb L' t') (hu : Upd (TpF b mb L) w w') (hn : ∀ k ∈ tpBlocks L', k ∈ tpBlocks L ∨ w.heap.size ≤ k) (hk : NamesOk t') : Sd w0 w' S sb b mb L' x t' :=
  ⟨h.st.upd hu (fun k hs hf => h.apart k hf hs), ht, fun k hk hs => (TpF.new hn k hk).elim (fun h1 => h.apart k h1 hs) (fun h1 => by have := h.st.lt k hs; omega), h.ok, hk, h.base.trans (hu.toBelow h.base.size h.aboveT), h.aboveS,
    fun k hk => (TpF.new hn k hk).elim (h.aboveT k) (fun h1 => Nat.le_trans h.base.size h1)⟩
theorem Sd.tapeIn {gv : Value} {m : List (Value × Sg)} {D : Nat → Prop} (h : StIn w S sb b x gv m D) (ha : ∀ k, TpF b mb L k → ¬ S k) (hu : Upd (TpF b mb L) w w') : StIn w' S sb b x gv m D := h.upd hu (fun k hs hf => ha k hf hs)
theorem SdTo.same (h : Sd w0 w S sb b mb L x t) (c : Int) (hb : Below w.heap.size w w') : SdTo w0 w S sb b mb L (t, x, c) (.returned (.int .i64 c)) w' :=
  ⟨S, L, rfl, h.below hb, Upd.of_below hb, fun _ hk => .inl hk, fun _ hk => .inl hk⟩
end

/-! ### Sync -/
def stDid (x : St) (e : Int) : St := { x with dead := x.dead || decide (e = 10) }
def fileS (x : St) (n : Int) : List UInt8 := fileN x.pre n.toNat
def syncS (t : Tp) (x : St) : Tp × St × Int :=
  if stReadyB t x = true then (t, x, 10)
  else match x.segs.getLast? with
    | none => (t, x, 0)
    | some g => ((syncT t (fileS x g.base)).1, stDid x (syncT t (fileS x g.base)).2, (syncT t (fileS x g.base)).2)
theorem StOk.did {x : St} (h : StOk x) (e : Int) : StOk (stDid x e) := ⟨h.pre, h.size, h.segs⟩
theorem last_at {x : St} {n : Nat} (hn : x.segs.length = n + 1) : x.segs.getLast? = some (x.segs[n]'(by omega)) := by
  rw [List.getLast?_eq_getElem?, ← List.getElem?_eq_getElem (by omega)]
  congr 1
  omega

/-- An act on the tape, and did. -/
theorem SdTo.acted {w0 w w1 w2 w3 : World} {S : Nat → Prop} {sb b mb : Nat} {L L' : TpL} {x : St} {t t' : Tp} {c : Int} (h : Sd w0 w S sb b mb L x t) (hb : Below w.heap.size w w1) (ht : TpAt w2 b mb L' t') (hu : Upd (TpF b mb L) w1 w2) (hn : ∀ k ∈ tpBlocks L', k ∈ tpBlocks L ∨ w1.heap.size ≤ k) (hk : NamesOk t')
    (hst : StAt w3 S sb b (stDid x c)) (hu3 : Upd (fun k => k = sb) w2 w3) : SdTo w0 w S sb b mb L (t', stDid x c, c) (.returned (.int .i64 c)) w3 := by
  have h1 := (h.below hb).tape ht hu hn hk
  have hs := h.st.own
  refine ⟨S, L', rfl, ⟨hst, ht.upd hu3 (fun k hk e => h1.apart k hk (by rw [e]; exact hs)), h1.apart, h.ok.did c, hk, h1.base.trans (hu3.toBelow h1.base.size (fun k e => by rw [e]; exact h.aboveS sb hs)), h.aboveS, h1.aboveT⟩, ?_, fun _ hk => .inl hk, fun k hk => (hn k hk).imp id (fun h => Nat.le_trans hb.size h)⟩
  exact ((Upd.of_below hb).trans (hu.mono (fun k _ hk => .inr hk))).trans (hu3.mono (fun k _ e => .inl (by rw [e]; exact hs)))

/-- What Sync leaves: the strand lies where it lay. -/
def SyTo (w0 w : World) (S : Nat → Prop) (sb b mb : Nat) (L : TpL) (r : Tp × St × Int) (gv : Value) (m : List (Value × Sg)) (D : Nat → Prop) (e : Ending) (w' : World) : Prop :=
  ∃ L', e = .returned (.int .i64 r.2.2) ∧ Sd w0 w' S sb b mb L' r.2.1 r.1 ∧ StIn w' S sb b r.2.1 gv m D ∧ Upd (SdF S b mb L) w w' ∧ ∀ k ∈ tpBlocks L', k ∈ tpBlocks L ∨ w.heap.size ≤ k
section
variable {w0 w w' : World} {S : Nat → Prop} {sb b mb : Nat} {L L' : TpL} {x : St} {t t' : Tp} {gv : Value} {m : List (Value × Sg)} {D : Nat → Prop}
theorem SyTo.sdTo {r : Tp × St × Int} {e : Ending} (h : SyTo w0 w S sb b mb L r gv m D e w') : SdTo w0 w S sb b mb L r e w' := by
  obtain ⟨L', h1, h2, h3, h4, h5⟩ := h
  exact ⟨S, L', h1, h2, h4, fun _ hk => .inl hk, h5⟩
theorem SyTo.same (h : Sd w0 w S sb b mb L x t) (hin : StIn w S sb b x gv m D) (c : Int) (hb : Below w.heap.size w w') : SyTo w0 w S sb b mb L (t, x, c) gv m D (.returned (.int .i64 c)) w' :=
  ⟨L, rfl, h.below hb, hin.below hb, Upd.of_below hb, fun _ hk => .inl hk⟩
theorem SyTo.acted {w1 w2 w3 : World} {c : Int} (h : Sd w0 w S sb b mb L x t) (hb : Below w.heap.size w w1) (ht : TpAt w2 b mb L' t') (hu : Upd (TpF b mb L) w1 w2) (hn : ∀ k ∈ tpBlocks L', k ∈ tpBlocks L ∨ w1.heap.size ≤ k) (hk : NamesOk t')
    (hst : StIn w3 S sb b (stDid x c) gv m D) (hu3 : Upd (fun k => k = sb) w2 w3) : SyTo w0 w S sb b mb L (t', stDid x c, c) gv m D (.returned (.int .i64 c)) w3 := by
  have h1 := (h.below hb).tape ht hu hn hk
  have hs := h.st.own
  refine ⟨L', rfl, ⟨⟨_, _, _, hst⟩, ht.upd hu3 (fun k hk e => h1.apart k hk (by rw [e]; exact hs)), h1.apart, h.ok.did c, hk, h1.base.trans (hu3.toBelow h1.base.size (fun k e => by rw [e]; exact h.aboveS sb hs)), h.aboveS, h1.aboveT⟩, hst, ?_, fun k hk => (hn k hk).imp id (fun h => Nat.le_trans hb.size h)⟩
  exact ((Upd.of_below hb).trans (hu.mono (fun k _ hk => .inr hk))).trans (hu3.mono (fun k _ e => .inl (by rw [e]; exact hs)))
end

set_option maxRecDepth 100000 in
set_option maxHeartbeats 2000000 in
theorem StSync_in {w0 w : World} {S : Nat → Prop} {sb b mb : Nat} {L : TpL} {x : St} {t : Tp} {gv : Value} {m : List (Value × Sg)} {D : Nat → Prop} (hE : Env w0) (h : Sd w0 w S sb b mb L x t) (hin : StIn w S sb b x gv m D) :
    Calls Tryz.prog 36 #[.pointer (some ⟨sb, 0, none⟩)] w (SyTo w0 w S sb b mb L (syncS t x) gv m D) := by
  have hrd := Stready_any h.st h.tp
  have HR := Lib.hid hrd
  have H := Lib.hid h
  have HIN0 := Lib.hid hin
  obtain ⟨r, hr⟩ : ∃ r, stReadyB t x = r := ⟨_, rfl⟩
  rw [hr] at HR
  clear hrd
  cases r with
  | true =>
    have hs : syncS t x = (t, x, 10) := by rw [syncS, if_pos hr]
    rw [hs]
    simp only [if_true] at HR
    clear hs hr h hin
    go_enter Tryz.func36, Tryz.ntmps36
    go_wp2_with (first | (go_at_call 86; refine HR.out.mono ?_; rintro _ w1 ⟨rfl, hb1⟩))
    go_ret
    exact SyTo.same H.out HIN0.out 10 hb1
  | false =>
    simp only [Bool.false_eq_true, if_false] at HR
    cases hn : x.segs.length with
    | zero =>
      have hs : syncS t x = (t, x, 0) := by rw [syncS, if_neg (by rw [hr]; decide), List.length_eq_zero_iff.1 hn]; rfl
      rw [hs]
      have hl := fun W (hW : Below w.heap.size w W) => Stlast_none (hin.below hW) hn
      have HL := Lib.hid hl
      clear hs hr h hin hn hl
      go_enter Tryz.func36, Tryz.ntmps36
      go_wp2_with (first | (go_at_call 86; refine HR.out.mono ?_; rintro _ w1 ⟨rfl, hb1⟩) | (go_at_call 84; refine (HL.out _ hb1).mono ?_; rintro _ w2 ⟨rfl, rfl⟩))
      go_ret
      exact SyTo.same H.out HIN0.out 0 hb1
    | succ n =>
      have hlast := last_at hn
      obtain ⟨g, hg⟩ : ∃ g, x.segs[n]'(by omega) = g := ⟨_, rfl⟩
      rw [hg] at hlast
      have hs : syncS t x = ((syncT t (fileS x g.base)).1, stDid x (syncT t (fileS x g.base)).2, (syncT t (fileS x g.base)).2) := by rw [syncS, if_neg (by rw [hr]; decide), hlast]
      rw [hs]
      obtain ⟨a, cap, rfl, -, hsg⟩ := hin.seg
      obtain ⟨gb, -, -, rfl, -⟩ := hsg n (by omega)
      have hgo := h.ok.segs g (by rw [← hg]; exact List.getElem_mem _)
      obtain ⟨gn, hgn⟩ : ∃ gn : Nat, g.base = gn := ⟨g.base.toNat, by omega⟩
      have hfn : fileS x g.base = fileN x.pre gn := by rw [fileS, hgn]; rfl
      rw [hfn]
      obtain ⟨fnm, hfm⟩ : ∃ fnm, fileN x.pre gn = fnm := ⟨_, rfl⟩
      rw [hfm]
      have hl := fun W (hW : Below w.heap.size w W) => Stlast_some (hin.below hW) hn
      have hf := fun W (hW : Below w.heap.size w W) => Stfile_any (n := gn) ((h.below hW).env hE) (h.below hW).st h.ok (by omega)
      rw [hfm] at hf
      have hts := fun W (hW : Below w.heap.size w W) => TSync_any (h.tp.below hW) fnm
      obtain ⟨c, hc⟩ : ∃ c, (syncT t fnm).2 = c := ⟨_, rfl⟩
      have hnk := syncT_names h.names fnm
      obtain ⟨t', ht'⟩ : ∃ t', (syncT t fnm).1 = t' := ⟨_, rfl⟩
      rw [hc, ht'] at hts
      rw [ht'] at hnk
      rw [hc, ht']
      have hcell : ∀ W d, StIn W S sb b { x with dead := d } (.slice (some ⟨gb, 0, none⟩) x.segs.length cap) m D → W.cell? ⟨sb, 0, none⟩ = some (.pointer (some ⟨b, 0, none⟩)) ∧ W.cell? ⟨gb, n * 3, none⟩ = some (.int .i64 (gn : Int)) := by
        intro W d hW
        have hml : m.length = x.segs.length := hW.len
        have hms : m.map (·.2) = x.segs := hW.segs
        have hk : n < m.length := by omega
        have e : m[n].2 = g := by rw [← hg]; simp only [← hms, List.getElem_map]
        refine ⟨hW.cells.1, ?_⟩
        rw [(hW.segk n hk).1, e, hgn]
      have hdc := fun W (hW : StIn W S sb b x (.slice (some ⟨gb, 0, none⟩) x.segs.length cap) m D) => Stdid_in hW c
      have HL := Lib.hid hl
      have HF := Lib.hid hf
      have HTS := Lib.hid hts
      have HCL := Lib.hid hcell
      have HDC := Lib.hid hdc
      have HIN := Lib.hid hin
      have HNK := Lib.hid hnk
      clear hs hr h hl hf hts hcell hdc hin hnk hsg hgo hg hlast hfn hfm hc ht' hn
      go_enter Tryz.func36, Tryz.ntmps36
      go_wp2_with fail
      refine HR.out.mono ?_
      rintro _ w1 ⟨rfl, hb1⟩
      go_wp2_with fail
      refine (HL.out _ hb1).mono ?_
      rintro _ w2 ⟨bq, hbq, rfl, hb2⟩
      obtain rfl : gb = bq := by simpa [Value.ownBlock] using hbq
      have hb12 := below_trans hb1 hb2
      obtain ⟨k0, k1⟩ := HCL.out w2 x.dead (HIN.out.below hb12)
      have HB := Lib.hid hb12
      have hK : ∀ W, Below w2.heap.size w2 W → W.cell? ⟨sb, 0, none⟩ = some (.pointer (some ⟨b, 0, none⟩)) ∧ W.cell? ⟨gb, n * 3, none⟩ = some (.int .i64 (gn : Int)) := fun W hW => HCL.out W x.dead (HIN.out.below (below_trans HB.out hW))
      have HK := Lib.hid hK
      clear hb1 hb2 hb12 hbq hK
      go_upto_region 7 with fail
      go_region_held3 (fun W' => W'.cell? ⟨sb, 0, none⟩ = some (.pointer (some ⟨b, 0, none⟩)) ∧ W'.cell? ⟨gb, n * 3, none⟩ = some (.int .i64 (gn : Int)))
        (first | with_reducible exact ⟨k0, k1⟩ | with_reducible exact HK.out _ (Below.refl _ _).drew | (have hg := hk5; with_reducible exact hk5) | (have hg := hk4; with_reducible exact hk4) | (have hg := hk3; with_reducible exact hk3))
        (first
          | (go_at_call 91; refine (HF.out _ ?_).mono ?_; (first | with_reducible exact HB.out | with_reducible exact below_trans HB.out (Below.refl _ _).drew); rintro _ w3 ⟨rfl, hb3⟩; have hk3 := HK.out w3 ((Below.refl _ _).drew.trans (hb3.mono (Nat.le_refl _))); have h03 := below_trans HB.out ((Below.refl _ _).drew.trans (hb3.mono (Nat.le_refl _))))
          | (go_at_call 94; have hg := h03; refine (HTS.out _ h03).mono ?_; rintro _ w4 ⟨rfl, L4, ht4, hu4, hn4⟩; have hi4 := Sd.tapeIn (HIN.out.below h03) H.out.apart hu4; have hk4 := HCL.out _ x.dead hi4)
          | (go_at_call 90; have hg := hi4; refine (HDC.out _ hi4).mono ?_; rintro _ w5 ⟨rfl, hi5, hu5⟩; have hk5 := HCL.out _ _ hi5))
      go_wp2
      go_ret
      exact SyTo.acted H.out h03 ht4 hu4 hn4 HNK.out hi5 hu5
theorem StSync_any {w0 w : World} {S : Nat → Prop} {sb b mb : Nat} {L : TpL} {x : St} {t : Tp} (hE : Env w0) (h : Sd w0 w S sb b mb L x t) :
    Calls Tryz.prog 36 #[.pointer (some ⟨sb, 0, none⟩)] w (SdTo w0 w S sb b mb L (syncS t x)) := by
  obtain ⟨gv, m, D, hin⟩ := h.st
  exact (StSync_in hE h hin).mono (fun _ _ h => h.sdTo)
end Go.Proofs.YtcpaaleogmiamaaGreatDoor
namespace Go.Proofs.YtcpaaleogmiamaaGreatDoor
open Go.RowKit

set_option maxHeartbeats 400000 in
theorem CrisNum_any (n : Int) (w : World) :
    Calls Tryz.prog 142 #[.int .i64 n] w fun e w' => e = .returned (.bool (isNumB n)) ∧ w = w' := by
  go_enter Tryz.func142, Tryz.ntmps142
  go_wp2
  all_goals go_ret
  all_goals simp [isNumB]; omega

set_option maxHeartbeats 400000 in
theorem CrisRec_any (x : Rec) (w : World) :
    Calls Tryz.prog 143 #[x.v] w fun e w' => e = .returned (.bool (recOkB x)) ∧ Below w.heap.size w w' := by
  obtain ⟨off, key, val, gone⟩ := x
  cases gone
  all_goals
    unfold Rec.v
    go_enter Tryz.func143, Tryz.ntmps143
    go_wp2
    all_goals go_ret
    all_goals refine ⟨ret_b ?_, (Below.refl _ _).alloc (Nat.le_refl _) _⟩
    all_goals simp only [recOkB, *, decide_true, Bool.true_and, Bool.not_false, Bool.true_or, Bool.not_true, Bool.false_or]
    all_goals first
      | done
      | (rw [decide_eq_false (p := (key.size : Int) ≤ 16) (by omega)]; rfl)
      | (rw [decide_eq_false (p := (val.size : Int) ≤ 64) (by omega)]; simp)

set_option maxRecDepth 100000 in
set_option maxHeartbeats 1000000 in
theorem CrGood_any (b : Batch) (rv : Value) (w : World) (hr : Rd w 4 rv b.recs.length (recCells b.recs)) :
    Calls Tryz.prog 87 #[b.v rv] w fun e w' => e = .returned (.bool (goodB b)) ∧ Below w.heap.size w w' := by
  obtain ⟨base, count, prod, seq, time, recs⟩ := b
  dsimp only at hr
  unfold Batch.v
  have isf : ∀ x : Bool, ¬ x = true → x = false := by intro x h; simpa using h
  by_cases h1 : isNumB base = true
  case neg =>
    have h1 := isf _ h1
    go_enter Tryz.func87, Tryz.ntmps87
    go_wp2
    refine wp_loop_rounds 1 ?_
    rw [rounds_succ]
    go_wp2_with (first | (go_at_call 142; refine (CrisNum_any _ _).mono ?_; rintro e w' ⟨rfl, rfl⟩))
    go_ret
    exact ⟨by simp [goodB, h1], ((Below.refl _ _).alloc (Nat.le_refl _) _).alloc (by simp) _⟩
  by_cases h2 : isNumB prod = true
  case neg =>
    have h2 := isf _ h2
    go_enter Tryz.func87, Tryz.ntmps87
    go_wp2
    refine wp_loop_rounds 2 ?_
    iterate 2 (rw [rounds_succ]; go_wp2_with (first | (go_at_call 142; refine (CrisNum_any _ _).mono ?_; rintro e w' ⟨rfl, rfl⟩)))
    go_ret
    exact ⟨by simp [goodB, h1, h2], ((Below.refl _ _).alloc (Nat.le_refl _) _).alloc (by simp) _⟩
  by_cases h3 : isNumB seq = true
  case neg =>
    have h3 := isf _ h3
    go_enter Tryz.func87, Tryz.ntmps87
    go_wp2
    refine wp_loop_rounds 3 ?_
    iterate 3 (rw [rounds_succ]; go_wp2_with (first | (go_at_call 142; refine (CrisNum_any _ _).mono ?_; rintro e w' ⟨rfl, rfl⟩)))
    go_ret
    exact ⟨by simp [goodB, h1, h2, h3], ((Below.refl _ _).alloc (Nat.le_refl _) _).alloc (by simp) _⟩
  by_cases h4 : isNumB time = true
  case neg =>
    have h4 := isf _ h4
    go_enter Tryz.func87, Tryz.ntmps87
    go_wp2
    refine wp_loop_rounds 4 ?_
    iterate 4 (rw [rounds_succ]; go_wp2_with (first | (go_at_call 142; refine (CrisNum_any _ _).mono ?_; rintro e w' ⟨rfl, rfl⟩)))
    go_ret
    exact ⟨by simp [goodB, h1, h2, h3, h4], ((Below.refl _ _).alloc (Nat.le_refl _) _).alloc (by simp) _⟩
  obtain ⟨ra, rcap, rfl, hrcap⟩ := hr.shape
  have hbase : 0 ≤ base ∧ base ≤ 1099511627776 := by simpa [isNumB] using h1
  obtain ⟨hb0, hb1⟩ := hbase
  have hcapm : (recs.length : Int) ≤ 9223372036854775807 := by
    have := hr.maxlen
    unfold maxLen at this; omega
  have hcellR : ∀ k (h : k < recs.length), ∃ b off, ra = some ⟨b, off, none⟩ ∧ b < w.heap.size ∧ w.cell? ⟨b, off + k * 4, none⟩ = some (.int .i64 recs[k].off) ∧ w.cell? ⟨b, off + k * 4 + 1, none⟩ = some (.string recs[k].key) ∧
      w.cell? ⟨b, off + k * 4 + 2, none⟩ = some (.string recs[k].val) ∧ w.cell? ⟨b, off + k * 4 + 3, none⟩ = some (.bool recs[k].gone) := by
    intro k hk
    obtain ⟨b, off, cap, e, _, _, hb, hc⟩ := hr.at (by omega)
    simp only [Value.slice.injEq, true_and] at e
    have := recCells_get recs k hk
    exact ⟨b, off, e.1, hb, hc _ _ this.1, hc (k * 4 + 1) _ this.2.1, hc (k * 4 + 2) _ this.2.2.1, hc (k * 4 + 3) _ this.2.2.2⟩
  clear hr
  have HR := Lib.hid hcellR
  clear hcellR
  by_cases hcount : 1 ≤ count ∧ count ≤ 8 ∧ base ≤ 1099511627776 - count ∧ (recs.length : Int) ≤ count
  case neg =>
    have HN := Lib.hid hcount
    clear hcount
    go_enter Tryz.func87, Tryz.ntmps87
    go_wp2
    refine wp_loop_rounds 5 ?_
    iterate 5 (rw [rounds_succ]; go_wp2_with (first | (go_at_call 142; refine (CrisNum_any _ _).mono ?_; rintro e w' ⟨rfl, rfl⟩)))

    all_goals have hN := HN.out
    all_goals try (exfalso; omega)
    all_goals
      go_ret
      refine ⟨ret_b (Eq.symm ?_), ((Below.refl _ _).alloc (Nat.le_refl _) _).alloc (by simp) _⟩
      simp only [goodB, *, Bool.true_and, Bool.and_eq_false_iff, decide_eq_false_iff_not]
      omega
  obtain ⟨hcl, hcu, hbc, hrl⟩ := hcount
  have hgood : goodB ⟨base, count, prod, seq, time, recs⟩ = goodRecs (base + count) base recs := by
    simp [goodB, h1, h2, h3, h4, hcl, hcu, hbc, hrl]
  have HGd := Lib.hid hgood
  clear hgood
  have hdec : decide (count < (recs.length : Int)) = false := by simp; omega
  go_enter Tryz.func87, Tryz.ntmps87
  go_wp2
  refine wp_loop_rounds 5 ?_
  iterate 5 (rw [rounds_succ]; go_wp2_with (first | (go_at_call 142; refine (CrisNum_any _ _).mono ?_; rintro e w' ⟨rfl, rfl⟩)))
  have hbc : base + count ≤ 1099511627776 := by omega
  go_loopw [5, 7, 55] (fun nx px i wr => ∃ (k : Nat) (n : Int), k ≤ recs.length ∧ i = .int .i64 k ∧ nx = .int .i64 n ∧ 0 ≤ n ∧ n ≤ 1099511627776 ∧ goodRecs (base + count) base recs = goodRecs (base + count) n (recs.drop k) ∧
      Below (w.heap.size + 2) ((w.alloc (.cells #[.int .i64 base, .int .i64 count, .int .i64 prod, .int .i64 seq, .int .i64 time, .slice ra recs.length rcap] 40)).alloc (.cells #[.int .i64 base, .int .i64 prod, .int .i64 seq, .int .i64 time] 3)) wr) (fun _ _ i _ => recs.length - (intOf i).toNat)
  case atStart => exact ⟨0, base, Nat.zero_le _, rfl, rfl, hb0, hb1, rfl, Below.refl _ _⟩
  case round =>
    obtain ⟨k, n, hk, rfl, rfl, hn0, hn1, hg, hbel⟩ := hrel
    have HG := Lib.hid hg
    clear hg
    have hsz := hbel.size
    simp only [World.size_alloc] at hsz
    by_cases hlt : k < recs.length
    · have q0 : wr.cell? ⟨w.heap.size, 0, none⟩ = some (.int .i64 base) := below_some hbel (by simp [go_sem]) (by omega)
      have q1 : wr.cell? ⟨w.heap.size, 1, none⟩ = some (.int .i64 count) := below_some hbel (by simp [go_sem]) (by omega)
      obtain ⟨b, off, rfl, hb, r0, r1, r2, r3⟩ := HR.out k hlt
      have r0 : wr.cell? ⟨b, off + k * 4, none⟩ = some (.int .i64 recs[k].off) := below_some hbel (by simp [go_sem, hb, r0]) (by omega)
      have r1 : wr.cell? ⟨b, off + k * 4 + 1, none⟩ = some (.string recs[k].key) := below_some hbel (by simp [go_sem, hb, r1]) (by omega)
      have r2 : wr.cell? ⟨b, off + k * 4 + 2, none⟩ = some (.string recs[k].val) := below_some hbel (by simp [go_sem, hb, r2]) (by omega)
      have r3 : wr.cell? ⟨b, off + k * 4 + 3, none⟩ = some (.bool recs[k].gone) := below_some hbel (by simp [go_sem, hb, r3]) (by omega)
      have e : recs.drop k = recs[k] :: recs.drop (k + 1) := List.drop_eq_getElem_cons hlt
      have HE := Lib.hid e
      clear e
      generalize recs[k] = x at *
      obtain ⟨o, key, val, gone⟩ := x
      dsimp only at r0 r1 r2 r3
      have hrec := fun w => CrisRec_any ⟨o, key, val, gone⟩ w
      unfold Rec.v at hrec
      dsimp only at hrec
      have HC := Lib.hid hrec
      clear hrec
      generalize hro : recOkB ⟨o, key, val, gone⟩ = ro at HC
      have HO := Lib.hid hro
      clear hro
      have hbw : b < wr.heap.size := by omega
      have hw0 : w.heap.size < wr.heap.size := by omega
      cases ro
      all_goals
        go_wp2_with (first | (go_at_call 143; refine (HC.out _).mono ?_; rintro e w1 ⟨rfl, hb1⟩; obtain ⟨hc1, hf1⟩ := bcell hb1; have hs1 := hb1.size; simp only [World.size_alloc, World.size_setCell] at hs1))
      all_goals
        have hfw : Below (w.heap.size + 2) wr w1 := ((((Below.refl _ wr).alloc (Nat.le_refl _) _).trans (hb1.mono (by simp))).mono (by omega))
        have hfin : Below w.heap.size w w1 := (((Below.refl _ _).alloc (Nat.le_refl _) _).alloc (by simp) _).trans ((hbel.mono (by omega)).trans (hfw.mono (by omega)))
      all_goals first
        | (go_ret
           refine ⟨ret_b (Eq.symm ?_), hfin⟩
           rw [HGd.out, HG.out, HE.out]
           simp only [goodRecs, HO.out, Bool.true_and, Bool.false_and, Bool.and_eq_false_iff, decide_eq_false_iff_not]
           done)
        | (go_ret
           refine ⟨ret_b (Eq.symm ?_), hfin⟩
           rw [HGd.out, HG.out, HE.out]
           simp only [goodRecs, HO.out, Bool.true_and, Bool.false_and, Bool.and_eq_false_iff, decide_eq_false_iff_not]
           omega)
        | skip
      have t1 : n ≤ o := by assumption
      have t2 : o < base + count := by assumption
      have hg2 : goodRecs (base + count) base recs = goodRecs (base + count) (o + 1) (recs.drop (k + 1)) := by
        rw [HG.out, HE.out]
        simp [goodRecs, HO.out, t1, t2]
      have HG2 := Lib.hid hg2
      clear hg2
      go_roundw
      case rel => exact ⟨k + 1, o + 1, by omega, by go_num, rfl, by omega, by omega, HG2.out, hbel.trans hfw⟩
      case measure => simp [intOf]; omega
    · have e : recs.drop k = [] := List.drop_eq_nil_of_le (by omega)
      go_wp2
      go_ret
      refine ⟨ret_b (by rw [HGd.out, HG.out, e]; rfl), ?_⟩
      exact (((Below.refl _ _).alloc (Nat.le_refl _) _).alloc (by simp) _).trans (hbel.mono (by omega))
end Go.Proofs.YtcpaaleogmiamaaGreatDoor
