/- The walk of strand.Drop. -/
/- Plain: what Append, Sync, Drop, a loss of power and Open do to a tape whose files are the strand's, word by word. -/
import Derived.Test.YtcpaaleogmiamaaGreatDoorMd39
import Derived.Test.YtcpaaleogmiamaaGreatDoorMd40
namespace Go.Proofs.YtcpaaleogmiamaaGreatDoor
open Go.RowKit

def dropF (t : Tp) (x : St) (k : Int) : Tp × St × Int :=
  if stReadyB t x = true then (t, x, 10)
  else if k < 0 ∨ (0 < k ∧ (x.segs.length : Int) ≤ k) then (t, x, 1)
  else dropS t x 0 k.toNat

set_option maxRecDepth 100000 in
set_option maxHeartbeats 4000000 in
theorem StDrop_any {w0 w : World} {S : Nat → Prop} {sb b mb : Nat} {L : TpL} {x : St} {t : Tp} (hE : Env w0) (h : Sd w0 w S sb b mb L x t) (k : Int) (hsl : x.segs.length ≤ 1000000) :
    Calls Tryz.prog 55 #[.pointer (some ⟨sb, 0, none⟩), .int .i64 k] w (SdTo w0 w S sb b mb L (dropF t x k)) := by
  obtain ⟨R, hR⟩ : ∃ R, dropF t x k = R := ⟨_, rfl⟩
  rw [hR]
  have hrd := Stready_any h.st h.tp
  obtain ⟨rb, hrb⟩ : ∃ r, stReadyB t x = r := ⟨_, rfl⟩
  rw [hrb] at hrd
  rw [dropF, hrb] at hR
  have HR := Lib.hid hrd
  have H := Lib.hid h
  clear hrd hrb h
  cases rb with
  | true =>
    rw [if_pos rfl] at hR
    simp only [if_true] at HR
    subst hR
    go_enter Tryz.func55, Tryz.ntmps55
    go_wp2_with (first | (go_at_call 86; refine HR.out.mono ?_; rintro _ w1 ⟨rfl, hb1⟩))
    go_ret
    exact SdTo.same H.out 10 hb1
  | false =>
    rw [if_neg (by decide)] at hR
    simp only [Bool.false_eq_true, if_false] at HR
    obtain ⟨gv, m, D, hin⟩ := H.out.st
    obtain ⟨ga, gc, rfl, -⟩ := hin.seg
    obtain ⟨n, hn⟩ : ∃ n, x.segs.length = n := ⟨_, rfl⟩
    have hc3 : ∀ W, Below w.heap.size w W → W.cell? ⟨sb, 3, none⟩ = some (.slice ga n gc) := fun W hW => by rw [← hn]; exact (hin.below hW).cells.2.2.2.1
    have hdr : ∀ (i : Nat) W, k = (i : Int) → i ≤ n → Below w.heap.size w W → Calls Tryz.prog 123 #[.pointer (some ⟨sb, 0, none⟩), .int .i64 0, .int .i64 k] W (SdTo w0 W S sb b mb L (dropS t x 0 i)) := fun i W hk hi hW => by
      rw [hk]
      exact Stdrop_any hE (H.out.below hW) 0 i (by rw [hn]; omega) hsl
    have HC := Lib.hid hc3
    have HDR := Lib.hid hdr
    rw [hn] at hR
    clear hc3 hdr hin hn
    by_cases h1 : k < 0
    · rw [if_pos (.inl h1)] at hR
      have HRR := Lib.hid hR
      clear hR
      go_enter Tryz.func55, Tryz.ntmps55
      go_wp2_with fail
      refine HR.out.mono ?_
      rintro _ w1 ⟨rfl, hb1⟩
      have c3 := HC.out _ hb1
      go_wp2
      go_ret
      rw [← HRR.out]
      exact SdTo.same H.out 1 hb1
    · by_cases h2 : 0 < k
      · by_cases h3 : (n : Int) ≤ k
        · rw [if_pos (.inr ⟨h2, h3⟩)] at hR
          have HRR := Lib.hid hR
          clear hR
          go_enter Tryz.func55, Tryz.ntmps55
          go_wp2_with fail
          refine HR.out.mono ?_
          rintro _ w1 ⟨rfl, hb1⟩
          have c3 := HC.out _ hb1
          go_wp2
          go_ret
          rw [← HRR.out]
          exact SdTo.same H.out 1 hb1
        · rw [if_neg (by omega)] at hR
          have HRR := Lib.hid hR
          have hkn : k = (k.toNat : Int) := by omega
          have hkl : k.toNat ≤ n := by omega
          have HKN := Lib.hid (And.intro hkn hkl)
          clear hR hkn hkl
          go_enter Tryz.func55, Tryz.ntmps55
          go_wp2_with fail
          refine HR.out.mono ?_
          rintro _ w1 ⟨rfl, hb1⟩
          have c3 := HC.out _ hb1
          have HB := Lib.hid hb1
          clear hb1
          go_wp2_with fail
          refine (HDR.out _ _ HKN.out.1 HKN.out.2 HB.out).mono ?_
          rintro e w2 hs
          rw [HRR.out] at hs
          have hfin := SdTo.since (Upd.of_below HB.out) (fun _ h => .inl h) (fun _ h => .inl h) hs
          obtain ⟨v, rfl⟩ : ∃ v, e = .returned v := by obtain ⟨_, _, e1, -⟩ := hfin; exact ⟨_, e1⟩
          have HFIN := Lib.hid hfin
          clear hs hfin
          go_wp2
          go_ret
          exact HFIN.out
      · obtain rfl : k = 0 := by omega
        rw [if_neg (by omega)] at hR
        have HRR := Lib.hid hR
        clear hR
        go_enter Tryz.func55, Tryz.ntmps55
        go_wp2_with fail
        refine HR.out.mono ?_
        rintro _ w1 ⟨rfl, hb1⟩
        have c3 := HC.out _ hb1
        have HB := Lib.hid hb1
        clear hb1
        go_wp2_with fail
        refine (HDR.out 0 _ rfl (Nat.zero_le _) HB.out).mono ?_
        rintro e w2 hs
        have hs2 : SdTo w0 w1 S sb b mb L R e w2 := by rw [← HRR.out]; exact hs
        have hfin := SdTo.since (Upd.of_below HB.out) (fun _ h => .inl h) (fun _ h => .inl h) hs2
        obtain ⟨v, rfl⟩ : ∃ v, e = .returned v := by obtain ⟨_, _, e1, -⟩ := hfin; exact ⟨_, e1⟩
        have HFIN := Lib.hid hfin
        clear hs hs2 hfin
        go_wp2
        go_ret
        exact HFIN.out
end Go.Proofs.YtcpaaleogmiamaaGreatDoor
namespace Go.Proofs.YtcpaaleogmiamaaGreatDoor
open Go.RowKit

/-- A tape that lives, its files the segments', word by word. -/
structure Full (t : Tp) (x : St) : Prop where
  live : Live t x
  tied : Tied x.pre x.segs t.files

theorem appT_files {t : Tp} {n s : List UInt8} (hd : t.down = false) (ha : t.armed = 0) (h : (appT t n s).2 = 0) :
    (appT t n s).1.files = if n ∈ t.files.map (·.1) then updF t.files n (appF s) else t.files ++ [(n, ⟨s, 0⟩)] := by
  unfold appT at h ⊢
  rw [hd, if_neg (by decide)] at h ⊢
  split at h
  · rename_i hn
    rw [if_pos hn]
    split at h
    · rename_i hf
      split at h
      · exact absurd h (by simp)
      · rename_i hc
        rw [if_neg hc, actT_calm (by exact ha), if_neg (fget_not hf)]
    · rename_i f hf
      split at h
      · exact absurd h (by simp)
      · rename_i hc
        rw [if_neg hc, actT_calm (by exact ha), if_pos (List.mem_map.2 ⟨_, fget_in hf, rfl⟩)]
  · exact absurd h (by simp)

/-- All files are safe. -/
def Sure (pre : List UInt8) (s : List Sg) (l : List (List UInt8 × Fl)) : Prop := ∀ g ∈ s, ∃ f, fget l (nmS pre g) = some f ∧ f.safe = f.data.length

theorem syncS_full {t : Tp} {x : St} (h : Full t x) : ∃ t', syncS t x = (t', x, 0) ∧ Calm t t' ∧ t'.files.map (·.1) = t.files.map (·.1) ∧ Tied x.pre x.segs t'.files ∧ Sure x.pre x.segs t'.files := by
  rw [syncS, h.live.ready, if_neg (by decide)]
  cases hl : x.segs.getLast? with
  | none =>
    have hn : x.segs = [] := by simpa using hl
    exact ⟨t, rfl, Calm.refl t, rfl, h.tied, by rw [hn]; intro g hg; cases hg⟩
  | some g =>
    have hm : fileS x g.base ∈ t.files.map (·.1) := h.live.names.mem_iff.2 (List.mem_map.2 ⟨g, List.mem_of_getLast? hl, rfl⟩)
    obtain ⟨f, hf⟩ := fget_some hm
    have hs : syncT t (fileS x g.base) = ({ t with files := updF t.files (fileS x g.base) syncF, acts := wrap64 (t.acts + 1) }, 0) := by
      unfold syncT
      rw [h.live.down, if_neg (by decide), hf, actT_calm h.live.armed]
      simp only
      rw [if_pos trivial, h.live.down]
    simp only
    rw [hs]
    obtain ⟨m, hms⟩ := List.getLast?_eq_some_iff.1 hl
    have ht := h.tied
    have hr := h.live.row
    rw [hms] at ht hr
    obtain ⟨q1, q2⟩ := ht.sure hr
    exact ⟨{ t with files := updF t.files (fileS x g.base) syncF, acts := wrap64 (t.acts + 1) }, by rw [stDid_zero], ⟨rfl, rfl, rfl, rfl⟩, updF_names _ _ _, by rw [hms]; exact q1, by rw [hms]; exact q2⟩

theorem fullS_full {t : Tp} {x : St} {b : Batch} (h : Full t x) (hr : Row (x.segs ++ [⟨b.base, [b]⟩])) : Full (fullS t x b).1 (fullS t x b).2.1 := by
  refine ⟨(fullS_live h.live hr).1, ?_⟩
  obtain ⟨t1, h1, h2, h3, h4, h5⟩ := syncS_full h
  have hL := h.live.calm h2 h3
  have hap := appT_calm (n := fileS x b.base) (s := frameB (encB b)) hL.down hL.armed
  have haf := appT_files (n := fileS x b.base) (s := frameB (encB b)) hL.down hL.armed
  unfold fullS
  rw [h1]
  simp only
  rw [if_neg (by simp)]
  obtain ⟨r, hr0⟩ : ∃ r, appT t1 (fileS x b.base) (frameB (encB b)) = r := ⟨_, rfl⟩
  rw [hr0] at hap haf ⊢
  obtain ⟨p1, p2, p3⟩ := hap
  simp only
  by_cases h0 : r.2 = 0
  · rw [if_pos h0, stDid_zero, haf h0, if_neg]
    · have := h4.add (g := ⟨b.base, [b]⟩) (k := 0) hr h5
      have e : sgB [b] = frameB (encB b) := by simp [sgB]
      rw [e] at this
      exact this
    · rw [hL.names.mem_iff]
      exact nm_new (g := ⟨b.base, [b]⟩) hr x.pre
  · obtain ⟨q1, q2⟩ := p3 h0
    rw [if_neg h0, stDid_other _ q2, q1]
    exact h4

theorem appS_full {t : Tp} {x : St} (b : Batch) (h : Full t x) (hz : 1 ≤ x.size) : Full (appS t x b).1 (appS t x b).2.1 := by
  unfold appS
  rw [h.live.ready, if_neg (by decide)]
  split
  · exact h
  split
  · exact h
  rename_i hg he
  have hg : goodB b = true := by simpa using hg
  have he : b.base = endS x.segs := by simpa using he
  split
  · rename_i g hl
    split
    · obtain ⟨q1, q2⟩ := h.live.row.more hl hg he x.pre
      have hap := appT_calm (n := fileS x g.base) (s := frameB (encB b)) h.live.down h.live.armed
      have haf := appT_files (n := fileS x g.base) (s := frameB (encB b)) h.live.down h.live.armed
      unfold moreS
      obtain ⟨r, hr0⟩ : ∃ r, appT t (fileS x g.base) (frameB (encB b)) = r := ⟨_, rfl⟩
      rw [hr0] at hap haf ⊢
      obtain ⟨p1, p2, p3⟩ := hap
      simp only
      by_cases h0 : r.2 = 0
      · rw [if_pos h0, stDid_zero]
        have hm : fileS x g.base ∈ t.files.map (·.1) := h.live.names.mem_iff.2 (List.mem_map.2 ⟨g, List.mem_of_getLast? hl, rfl⟩)
        have hfl := haf h0
        rw [if_pos hm] at hfl
        refine ⟨⟨p1.down.trans h.live.down, p1.armed.trans h.live.armed, h.live.dead, p1.life.trans h.live.life, ?_, q1⟩, ?_⟩
        · rw [p2 h0, if_pos hm]
          simp only
          rw [q2]
          exact h.live.names
        · simp only
          rw [hfl]
          obtain ⟨m, hms⟩ := List.getLast?_eq_some_iff.1 hl
          have ht := h.tied
          have hr := h.live.row
          rw [hms] at ht hr ⊢
          rw [set_last]
          exact ht.last hr (g' := ⟨g.base, g.list ++ [b]⟩) rfl (F := appF (frameB (encB b))) (fun f hf => by simp [appF, hf, sgB])
      · obtain ⟨r1, r2⟩ := p3 h0
        rw [if_neg h0, stDid_other _ r2, r1]
        exact h
    · rename_i hlt
      refine fullS_full h (h.live.row.push (fun g' hg' => ?_) hg he)
      rw [hl] at hg'
      simp only [Option.some.injEq] at hg'
      subst hg'
      intro e
      rw [e] at hlt
      simp only [sgB, List.flatMap_nil, List.length_nil] at hlt
      omega
  · rename_i hl
    refine fullS_full h (h.live.row.push (fun g' hg' => ?_) hg he)
    rw [hl] at hg'
    cases hg'

/-! ### The first segments go -/
theorem fget_erase (n m : List UInt8) (h : n ≠ m) : ∀ l : List (List UInt8 × Fl), fget (l.eraseP (fun x => decide (x.1 = n))) m = fget l m
  | [] => rfl
  | x :: l => by
    by_cases e : x.1 = n
    · rw [List.eraseP_cons_of_pos (by simpa using e)]
      have : ¬ x.1 = m := fun e2 => h (e.symm.trans e2)
      simp [fget, this]
    · rw [List.eraseP_cons_of_neg (by simpa using e)]
      have ih := fget_erase n m h l
      unfold fget at ih ⊢
      by_cases e2 : x.1 = m
      · simp [e2]
      · simp only [List.find?_cons, e2, decide_false]
        exact ih

theorem Row.tail {g : Sg} {s : List Sg} (h : Row (g :: s)) : Row s := by
  obtain ⟨n, hn, h1, h2, h3⟩ := h.chain
  refine ⟨⟨endL n g.list, by have := endL_ge h2; omega, h3⟩, fun x hx => h.full x ?_, fun x hx => h.lim x (by simp [hx])⟩
  cases s with
  | nil => cases hx
  | cons y s => rw [List.dropLast_cons_cons]; exact List.mem_cons_of_mem _ hx

theorem Tied.tail {pre : List UInt8} {g : Sg} {s : List Sg} {l : List (List UInt8 × Fl)} (h : Tied pre (g :: s) l) (hr : Row (g :: s)) : Tied pre s (l.eraseP (fun x => decide (x.1 = nmS pre g))) := by
  have hne : ∀ x ∈ s, nmS pre g ≠ nmS pre x := by
    intro x hx e
    have := hr.names pre
    rw [List.map_cons, List.pairwise_cons] at this
    have := this.1 _ (List.mem_map_of_mem hx)
    rw [e] at this
    exact List.lt_irrefl _ this
  refine ⟨?_, fun x hx => ?_, fun x hx => ?_⟩
  · rw [eraseP_names]
    have := h.names.erase (nmS pre g)
    rw [List.map_cons, List.erase_cons_head] at this
    exact this
  · rw [fget_erase _ _ (hne x hx)]
    exact h.data x (by simp [hx])
  · have hx2 : x ∈ s := (List.dropLast_sublist s).subset hx
    rw [fget_erase _ _ (hne x hx2)]
    refine h.safe x ?_
    cases s with
    | nil => cases hx
    | cons y s => rw [List.dropLast_cons_cons]; exact List.mem_cons_of_mem _ hx

theorem dropS_full : ∀ (k : Nat) (t : Tp) (x : St), Full t x → k ≤ x.segs.length → ∃ t', dropS t x 0 k = (t', { x with segs := x.segs.drop k }, 0) ∧ Calm t t' ∧ Full t' { x with segs := x.segs.drop k }
  | 0, t, x, h, _ => ⟨t, by rw [dropS]; rfl, Calm.refl t, h⟩
  | k + 1, t, x, h, hk => by
    cases hs : x.segs with
    | nil => rw [hs] at hk; simp at hk
    | cons g s =>
      have hm : fileS x g.base ∈ t.files.map (·.1) := h.live.names.mem_iff.2 (by rw [hs]; simp [nmS, fileS])
      obtain ⟨f, hf⟩ := fget_some hm
      have hdr : dropT t (fileS x g.base) = ({ t with files := t.files.eraseP (fun x_1 => decide (x_1.1 = fileS x g.base)), acts := wrap64 (t.acts + 1) }, 0) := by
        unfold dropT
        rw [h.live.down, if_neg (by decide), hf]
        simp only
        rw [actT_calm (by exact h.live.armed)]
      have ht := h.tied
      have hr := h.live.row
      rw [hs] at ht hr
      have hF : Full { t with files := t.files.eraseP (fun x_1 => decide (x_1.1 = fileS x g.base)), acts := wrap64 (t.acts + 1) } { x with segs := s } := by
        have h1 := ht.tail hr
        exact ⟨⟨h.live.down, h.live.armed, h.live.dead, h.live.life, h1.names, hr.tail⟩, h1⟩
      rw [dropS, hs]
      simp only [List.getElem?_cons_zero]
      rw [hdr]
      simp only
      rw [if_pos trivial, List.eraseIdx_cons_zero]
      obtain ⟨t', h1, h2, h3⟩ := dropS_full k _ _ hF (by rw [hs] at hk; simpa using hk)
      exact ⟨t', h1, ⟨h2.down, h2.armed, h2.life, h2.room⟩, h3⟩

/-! ### The power goes, all files safe -/
theorem fget_nodup {l : List (List UInt8 × Fl)} (h : (l.map (·.1)).Nodup) {y : List UInt8 × Fl} (hy : y ∈ l) : fget l y.1 = some y.2 := by
  induction l with
  | nil => cases hy
  | cons x l ih =>
    rw [List.map_cons, List.nodup_cons] at h
    rcases List.mem_cons.1 hy with rfl | hy
    · simp [fget]
    · have hne : ¬ x.1 = y.1 := fun e => h.1 (by rw [e]; exact List.mem_map_of_mem hy)
      have := ih h.2 hy
      unfold fget at this ⊢
      simp only [List.find?_cons, hne, decide_false]
      exact this

theorem sure_files {t : Tp} {x : St} (h : Live t x) (hs : Sure x.pre x.segs t.files) : ∀ y ∈ t.files, y.2.safe = y.2.data.length := by
  intro y hy
  have hnd : (t.files.map (·.1)).Nodup := by
    refine h.names.nodup_iff.2 ?_
    exact (h.row.names x.pre).imp (fun {a b} hlt e => by subst e; exact List.lt_irrefl _ hlt)
  have hm : y.1 ∈ x.segs.map (nmS x.pre) := h.names.mem_iff.1 (List.mem_map_of_mem hy)
  obtain ⟨g, hg, e⟩ := List.mem_map.1 hm
  obtain ⟨f, h1, h2⟩ := hs g hg
  rw [e, fget_nodup hnd hy] at h1
  simp only [Option.some.injEq] at h1
  subst h1
  exact h2

theorem onAt_sure {t t2 : Tp} (hd : t.down = false) (hs : ∀ y ∈ t.files, y.2.safe = y.2.data.length) (h : OnAt (offT t) t2) : t2.down = false ∧ t2.armed = 0 ∧ t2.files = t.files ∧ t2.room = t.room := by
  have ho : offT t = { t with down := true, armed := 0, life := wrap64 (t.life + 1) } := by unfold offT; rw [hd, if_neg (by decide)]
  rw [ho] at h
  unfold OnAt at h
  rw [if_pos rfl] at h
  obtain ⟨h1, h2, -, h4, -, h6⟩ := h
  simp only at h1 h4 h6
  refine ⟨h2, h4, ?_, h1⟩
  generalize t2.files = l2 at h6
  generalize t.files = l at h6 hs
  clear h1 h2 h4 ho hd
  induction h6 with
  | nil => rfl
  | @cons a b la lb q r ih =>
    obtain ⟨n1, f1⟩ := a
    obtain ⟨n2, f2⟩ := b
    obtain ⟨e, g, hg, e2⟩ := q
    simp only at e hg e2
    have hz := hs (n1, f1) (by simp)
    simp only at hz
    have : g = 0 := by omega
    subst this
    rw [ih (fun y hy => hs y (by simp [hy])), e, e2]
    obtain ⟨d, s⟩ := f1
    simp only at hz
    subst hz
    simp [onF]

theorem openS_full {t : Tp} {pre : List UInt8} {size : Int} {s : List Sg} (hd : t.down = false) (ht : Tied pre s t.files) (hr : Row s) : openS t pre size = (t, some ⟨pre, size, s, t.life, false⟩, 0) := by
  have hfr : fget t.files (freshN pre) = none := fget_not' (fun hm => by
    obtain ⟨g, hg, e⟩ := List.mem_map.1 (ht.names.mem_iff.1 hm)
    have h2 := fileN_len (pre := pre) (n := g.base.toNat) (by have := hr.lim g hg; omega)
    rw [show fileN pre g.base.toNat = nmS pre g from rfl, e] at h2
    simp [freshN] at h2)
  have hdr : dropT t (freshN pre) = (t, 12) := by unfold dropT; rw [hd, if_neg (by decide), hfr]
  obtain ⟨n, hn, hc⟩ := hr.chain
  have hw := findF_whole (pre := pre) hd s [] n hc (fun h => absurd rfl h) hr.lim ht.data hr.full
  have hft : findT t ⟨pre, size, [], t.life, false⟩ = (t, ⟨pre, size, s, t.life, false⟩, 0) := by
    unfold findT
    rw [ht.namesV hr]
    simp only
    rw [hw]
    simp
  unfold openS
  rw [hd, if_neg (by decide), hdr]
  simp only
  rw [if_neg (by decide), hft]
  simp only
  rw [if_pos trivial]
end Go.Proofs.YtcpaaleogmiamaaGreatDoor
