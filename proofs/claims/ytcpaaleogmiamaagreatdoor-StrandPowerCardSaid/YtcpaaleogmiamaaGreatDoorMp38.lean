/- Plain: what Append, drop, Reset and Open do to a tape that lives and a strand that is tied to it. -/
/- The walk of strand.Drop. -/
/- Plain: what Append, Sync, Drop, a loss of power and Open do to a tape whose files are the strand's, word by word. -/
import Derived.Test.YtcpaaleogmiamaaGreatDoorMp37
import Derived.Test.YtcpaaleogmiamaaGreatDoorMp33
namespace Go.Proofs.YtcpaaleogmiamaaGreatDoor
open Go.RowKit

structure Calm (t t' : Tp) : Prop where
  down : t'.down = t.down
  armed : t'.armed = t.armed
  life : t'.life = t.life
  room : t'.room = t.room
theorem Calm.refl (t : Tp) : Calm t t := ⟨rfl, rfl, rfl, rfl⟩
theorem Calm.trans {a b c : Tp} (h : Calm a b) (k : Calm b c) : Calm a c := ⟨k.down.trans h.down, k.armed.trans h.armed, k.life.trans h.life, k.room.trans h.room⟩

/-- A tape that lives, its files the segments'. -/
structure Live (t : Tp) (x : St) : Prop where
  down : t.down = false
  armed : t.armed = 0
  dead : x.dead = false
  life : t.life = x.life
  names : (t.files.map (·.1)).Perm (x.segs.map (nmS x.pre))
  row : Row x.segs
theorem Live.ready {t : Tp} {x : St} (h : Live t x) : stReadyB t x = false := by simp [stReadyB, h.down, h.dead, h.life]

theorem fget_not {l : List (List UInt8 × Fl)} {n : List UInt8} (h : fget l n = none) : n ∉ l.map (·.1) := fun hm => by
  obtain ⟨f, e⟩ := fget_some hm
  rw [h] at e
  cases e
theorem fget_not' {l : List (List UInt8 × Fl)} {n : List UInt8} (h : n ∉ l.map (·.1)) : fget l n = none := by
  cases e : fget l n with
  | none => rfl
  | some f => exact absurd (List.mem_map.2 ⟨_, fget_in e, rfl⟩) h

theorem Row.none : Row [] := ⟨⟨0, Int.le_refl _, trivial⟩, by simp, by simp⟩
theorem Row.all {s : List Sg} (h : Row s) (hl : ∀ g, s.getLast? = some g → g.list ≠ []) : ∀ g ∈ s, g.list ≠ [] := by
  intro g hg
  have hne : s ≠ [] := List.ne_nil_of_mem hg
  rw [← List.dropLast_concat_getLast hne] at hg
  rcases List.mem_append.1 hg with hg | hg
  · exact h.full g hg
  · simp only [List.mem_singleton] at hg
    subst hg
    exact hl _ (List.getLast?_eq_some_getLast hne)
theorem Row.push {s : List Sg} (h : Row s) (hl : ∀ g, s.getLast? = some g → g.list ≠ []) {b : Batch} (hg : goodB b = true) (he : b.base = endS s) : Row (s ++ [⟨b.base, [b]⟩]) := by
  obtain ⟨n, hn, hc⟩ := h.chain
  have G := ((goodB_iff b).1 hg).base
  refine ⟨(Lin.push hn hc hg he).1, ?_, ?_⟩
  · rw [List.dropLast_concat]
    exact h.all hl
  · intro g hx
    rcases List.mem_append.1 hx with hx | hx
    · exact h.lim g hx
    · simp only [List.mem_singleton] at hx
      subst hx
      exact ⟨by simp only; omega, by simp only; omega⟩
theorem set_last {m : List Sg} {g g' : Sg} : (m ++ [g]).set ((m ++ [g]).length - 1) g' = m ++ [g'] := by simp
theorem Row.more {s : List Sg} (h : Row s) {g : Sg} (hl : s.getLast? = some g) {b : Batch} (hg : goodB b = true) (he : b.base = endS s) (pre : List UInt8) : Row (s.set (s.length - 1) ⟨g.base, g.list ++ [b]⟩) ∧ (s.set (s.length - 1) ⟨g.base, g.list ++ [b]⟩).map (nmS pre) = s.map (nmS pre) := by
  obtain ⟨n, hn, hc⟩ := h.chain
  have hq := (Lin.more hn hc hl hg he).1
  obtain ⟨m, rfl⟩ := List.getLast?_eq_some_iff.1 hl
  rw [set_last] at hq ⊢
  refine ⟨⟨hq, ?_, ?_⟩, ?_⟩
  · have := h.full
    rw [List.dropLast_concat] at this ⊢
    exact this
  · intro x hx
    rcases List.mem_append.1 hx with hx | hx
    · exact h.lim x (by simp [hx])
    · simp only [List.mem_singleton] at hx
      subst hx
      exact h.lim g (by simp)
  · simp [nmS]

theorem stDid_other (x : St) {e : Int} (h : e ≠ 10) : stDid x e = x := by simp [stDid, h]

theorem appT_calm {t : Tp} {n s : List UInt8} (hd : t.down = false) (ha : t.armed = 0) :
    Calm t (appT t n s).1 ∧ ((appT t n s).2 = 0 → (appT t n s).1.files.map (·.1) = if n ∈ t.files.map (·.1) then t.files.map (·.1) else t.files.map (·.1) ++ [n]) ∧ ((appT t n s).2 ≠ 0 → (appT t n s).1 = t ∧ (appT t n s).2 ≠ 10) := by
  unfold appT
  rw [hd, if_neg (by decide)]
  split
  · split
    · rename_i hf
      split
      · exact ⟨Calm.refl t, fun h => absurd h (by simp), fun _ => ⟨rfl, by simp⟩⟩
      · rw [actT_calm (by exact ha)]
        refine ⟨⟨hd.symm, rfl, rfl, rfl⟩, fun _ => ?_, fun h => absurd rfl h⟩
        rw [if_neg (fget_not hf)]
        simp
    · rename_i f hf
      split
      · exact ⟨Calm.refl t, fun h => absurd h (by simp), fun _ => ⟨rfl, by simp⟩⟩
      · rw [actT_calm (by exact ha)]
        refine ⟨⟨hd.symm, rfl, rfl, rfl⟩, fun _ => ?_, fun h => absurd rfl h⟩
        rw [if_pos (List.mem_map.2 ⟨_, fget_in hf, rfl⟩)]
        exact updF_names _ _ _
  · exact ⟨Calm.refl t, fun h => absurd h (by simp), fun _ => ⟨rfl, by simp⟩⟩

theorem syncS_live {t : Tp} {x : St} (h : Live t x) : ∃ t', syncS t x = (t', x, 0) ∧ Calm t t' ∧ t'.files.map (·.1) = t.files.map (·.1) := by
  rw [syncS, h.ready, if_neg (by decide)]
  cases hl : x.segs.getLast? with
  | none => exact ⟨t, rfl, Calm.refl t, rfl⟩
  | some g =>
    have hm : fileS x g.base ∈ t.files.map (·.1) := h.names.mem_iff.2 (List.mem_map.2 ⟨g, List.mem_of_getLast? hl, rfl⟩)
    obtain ⟨f, hf⟩ := fget_some hm
    have hs : syncT t (fileS x g.base) = ({ t with files := updF t.files (fileS x g.base) syncF, acts := wrap64 (t.acts + 1) }, 0) := by
      unfold syncT
      rw [h.down, if_neg (by decide), hf, actT_calm h.armed]
      simp only
      rw [if_pos trivial, h.down]
    simp only
    rw [hs]
    exact ⟨{ t with files := updF t.files (fileS x g.base) syncF, acts := wrap64 (t.acts + 1) }, by rw [stDid_zero], ⟨rfl, rfl, rfl, rfl⟩, updF_names _ _ _⟩

theorem Live.calm {t t' : Tp} {x : St} (h : Live t x) (hc : Calm t t') (hn : t'.files.map (·.1) = t.files.map (·.1)) : Live t' x := ⟨hc.down.trans h.down, hc.armed.trans h.armed, h.dead, hc.life.trans h.life, by rw [hn]; exact h.names, h.row⟩

theorem nm_new {s : List Sg} {g : Sg} (h : Row (s ++ [g])) (pre : List UInt8) : nmS pre g ∉ s.map (nmS pre) := by
  intro hm
  obtain ⟨x, hx, e⟩ := List.mem_map.1 hm
  have := h.names pre
  rw [List.map_append, List.pairwise_append] at this
  have := this.2.2 _ (List.mem_map_of_mem hx) (nmS pre g) (by simp)
  rw [e] at this
  exact List.lt_irrefl _ this

theorem fullS_live {t : Tp} {x : St} {b : Batch} (h : Live t x) (hr : Row (x.segs ++ [⟨b.base, [b]⟩])) :
    Live (fullS t x b).1 (fullS t x b).2.1 ∧ Calm t (fullS t x b).1 ∧ (fullS t x b).2.1.pre = x.pre ∧ (fullS t x b).2.1.size = x.size := by
  obtain ⟨t1, h1, h2, h3⟩ := syncS_live h
  have hL := h.calm h2 h3
  have hap := appT_calm (n := fileS x b.base) (s := frameB (encB b)) hL.down hL.armed
  unfold fullS
  rw [h1]
  simp only
  rw [if_neg (by simp)]
  obtain ⟨r, hr0⟩ : ∃ r, appT t1 (fileS x b.base) (frameB (encB b)) = r := ⟨_, rfl⟩
  rw [hr0] at hap ⊢
  obtain ⟨p1, p2, p3⟩ := hap
  simp only
  by_cases h0 : r.2 = 0
  · rw [if_pos h0, stDid_zero]
    refine ⟨⟨p1.down.trans hL.down, p1.armed.trans hL.armed, h.dead, p1.life.trans hL.life, ?_, hr⟩, h2.trans p1, rfl, rfl⟩
    have hnm : fileS x b.base = nmS x.pre ⟨b.base, [b]⟩ := rfl
    rw [p2 h0, if_neg, List.map_append]
    · exact hL.names.append_right _
    · rw [hL.names.mem_iff, hnm]
      exact nm_new hr x.pre
  · obtain ⟨q1, q2⟩ := p3 h0
    rw [if_neg h0, stDid_other _ q2, q1]
    exact ⟨hL, h2, rfl, rfl⟩

theorem appS_live {t : Tp} {x : St} (b : Batch) (h : Live t x) (hz : 1 ≤ x.size) :
    Live (appS t x b).1 (appS t x b).2.1 ∧ Calm t (appS t x b).1 ∧ (appS t x b).2.1.pre = x.pre ∧ (appS t x b).2.1.size = x.size := by
  unfold appS
  rw [h.ready, if_neg (by decide)]
  split
  · exact ⟨h, Calm.refl t, rfl, rfl⟩
  split
  · exact ⟨h, Calm.refl t, rfl, rfl⟩
  rename_i hg he
  have hg : goodB b = true := by simpa using hg
  have he : b.base = endS x.segs := by simpa using he
  split
  · rename_i g hl
    split
    · obtain ⟨q1, q2⟩ := h.row.more hl hg he x.pre
      have hap := appT_calm (n := fileS x g.base) (s := frameB (encB b)) h.down h.armed
      unfold moreS
      obtain ⟨r, hr0⟩ : ∃ r, appT t (fileS x g.base) (frameB (encB b)) = r := ⟨_, rfl⟩
      rw [hr0] at hap ⊢
      obtain ⟨p1, p2, p3⟩ := hap
      simp only
      by_cases h0 : r.2 = 0
      · rw [if_pos h0, stDid_zero]
        refine ⟨⟨p1.down.trans h.down, p1.armed.trans h.armed, h.dead, p1.life.trans h.life, ?_, q1⟩, p1, rfl, rfl⟩
        have hm : fileS x g.base ∈ t.files.map (·.1) := h.names.mem_iff.2 (List.mem_map.2 ⟨g, List.mem_of_getLast? hl, rfl⟩)
        rw [p2 h0, if_pos hm]
        simp only
        rw [q2]
        exact h.names
      · obtain ⟨r1, r2⟩ := p3 h0
        rw [if_neg h0, stDid_other _ r2, r1]
        exact ⟨h, Calm.refl t, rfl, rfl⟩
    · rename_i hlt
      refine fullS_live h (h.row.push (fun g' hg' => ?_) hg he)
      rw [hl] at hg'
      simp only [Option.some.injEq] at hg'
      subst hg'
      intro e
      rw [e] at hlt
      simp only [sgB, List.flatMap_nil, List.length_nil] at hlt
      omega
  · rename_i hl
    refine fullS_live h (h.row.push (fun g' hg' => ?_) hg he)
    rw [hl] at hg'
    cases hg'

theorem eraseP_names (n : List UInt8) : ∀ l : List (List UInt8 × Fl), (l.eraseP (fun x => decide (x.1 = n))).map (·.1) = (l.map (·.1)).erase n
  | [] => rfl
  | x :: l => by
    by_cases h : x.1 = n
    · rw [List.eraseP_cons_of_pos (by simpa using h), List.map_cons, h, List.erase_cons_head]
    · rw [List.eraseP_cons_of_neg (by simpa using h), List.map_cons, List.map_cons, List.erase_cons_tail (by simpa using h), eraseP_names n l]

theorem dropS_all : ∀ (s : List Sg) (t : Tp) (x : St), x.segs = s → t.down = false → t.armed = 0 → (t.files.map (·.1)).Perm (s.map (nmS x.pre)) → ∃ t', dropS t x 0 s.length = (t', { x with segs := [] }, 0) ∧ Calm t t' ∧ t'.files = []
  | [], t, x, hs, _, _, hp => by
    refine ⟨t, ?_, Calm.refl t, ?_⟩
    · rw [List.length_nil, dropS]
      obtain ⟨p, z, sg, l, d⟩ := x
      simp only at hs
      rw [hs]
    · have := hp.eq_nil
      simpa using this
  | g :: s, t, x, hs, hd, ha, hp => by
    have hm : fileS x g.base ∈ t.files.map (·.1) := hp.mem_iff.2 (by simp [nmS, fileS])
    obtain ⟨f, hf⟩ := fget_some hm
    have hdr : dropT t (fileS x g.base) = ({ t with files := t.files.eraseP (fun x_1 => decide (x_1.1 = fileS x g.base)), acts := wrap64 (t.acts + 1) }, 0) := by
      unfold dropT
      rw [hd, if_neg (by decide), hf]
      simp only
      rw [actT_calm (by exact ha)]
    rw [List.length_cons, dropS, hs]
    simp only [List.getElem?_cons_zero]
    rw [hdr]
    simp only
    rw [if_pos trivial, List.eraseIdx_cons_zero]
    obtain ⟨t', h1, h2, h3⟩ := dropS_all s { t with files := t.files.eraseP (fun x_1 => decide (x_1.1 = fileS x g.base)), acts := wrap64 (t.acts + 1) } { x with segs := s } rfl hd ha (by
      simp only
      rw [eraseP_names]
      have := hp.erase (fileS x g.base)
      rw [List.map_cons, show nmS x.pre g = fileS x g.base from rfl, List.erase_cons_head] at this
      exact this)
    exact ⟨t', h1, ⟨h2.down, h2.armed, h2.life, h2.room⟩, h3⟩

theorem name_good {pre : List UInt8} {n : Nat} (hp : pre.length ≤ 16) (hn : n ≤ 1099511627776) : isNameB (fileN pre n) = true := by
  have := fileN_len (pre := pre) hn
  unfold isNameB
  simp only [Bool.and_eq_true, decide_eq_true_eq]
  exact ⟨fun e => by rw [e] at this; simp at this, by omega⟩

theorem resetS_live {t : Tp} {x : St} {off : Int} (h : Live t x) (hr : 0 ≤ t.room) (hp : x.pre.length ≤ 16) (h0 : 0 ≤ off) (h1 : off ≤ 1099511627776) :
    ∃ t', resetS t x off = (t', { x with segs := [⟨off, []⟩] }, 0) ∧ Calm t t' ∧ t'.files = [(fileN x.pre off.toNat, ⟨[], 0⟩)] := by
  obtain ⟨t1, d1, d2, d3⟩ := dropS_all x.segs t x rfl h.down h.armed h.names
  have hd : t1.down = false := d2.down.trans h.down
  have ha : t1.armed = 0 := d2.armed.trans h.armed
  obtain ⟨n, hn⟩ : ∃ n, fileN x.pre off.toNat = n := ⟨_, rfl⟩
  have hng : isNameB n = true := by rw [← hn]; exact name_good hp (by omega)
  have hfs : fileS { x with segs := [] } off = n := hn
  have hap : appT t1 n [] = ({ t1 with files := [(n, ⟨[], 0⟩)], acts := wrap64 (t1.acts + 1) }, 0) := by
    unfold appT
    rw [hd, if_neg (by decide), if_pos hng, d3]
    simp only [fget, List.find?_nil, Option.map_none, List.length_nil, dataSum, List.map_nil, List.sum_nil]
    rw [if_neg (by rw [d2.room]; omega), actT_calm (by exact ha)]
    simp
  have hsy : syncS { t1 with files := [(n, ⟨[], 0⟩)], acts := wrap64 (t1.acts + 1) } { x with segs := [⟨off, []⟩] } = ({ t1 with files := [(n, ⟨[], 0⟩)], acts := wrap64 (wrap64 (t1.acts + 1) + 1) }, { x with segs := [⟨off, []⟩] }, 0) := by
    have hrd : stReadyB { t1 with files := [(n, ⟨[], 0⟩)], acts := wrap64 (t1.acts + 1) } { x with segs := [⟨off, []⟩] } = false := by
      simp [stReadyB, hd, h.dead, d2.life, h.life]
    have hs : syncT { t1 with files := [(n, ⟨[], 0⟩)], acts := wrap64 (t1.acts + 1) } n = ({ t1 with files := [(n, ⟨[], 0⟩)], acts := wrap64 (wrap64 (t1.acts + 1) + 1) }, 0) := by
      unfold syncT
      simp only
      rw [hd, if_neg (by decide), actT_calm (by exact ha)]
      simp [fget, updF, syncF]
    rw [syncS, hrd, if_neg (by decide)]
    simp only [List.getLast?_singleton]
    rw [show fileS { x with segs := [⟨off, []⟩] } off = n from hn, hs]
    simp only
    rw [stDid_zero]
  refine ⟨{ t1 with files := [(n, ⟨[], 0⟩)], acts := wrap64 (wrap64 (t1.acts + 1) + 1) }, ?_, ⟨d2.down, d2.armed, d2.life, d2.room⟩, by rw [hn]⟩
  rw [resetS, h.ready, if_neg (by decide), if_neg (by omega), d1]
  simp only
  rw [if_pos trivial, resetA, hfs, hap]
  simp only
  rw [if_pos trivial, List.nil_append, hsy]

theorem onAt_live {t t2 : Tp} {n : List UInt8} (hd : t.down = false) (hf : t.files = [(n, ⟨[], 0⟩)]) (h : OnAt (offT t) t2) : t2.down = false ∧ t2.armed = 0 ∧ t2.files = [(n, ⟨[], 0⟩)] := by
  have ho : offT t = { t with down := true, armed := 0, life := wrap64 (t.life + 1) } := by unfold offT; rw [hd, if_neg (by decide)]
  rw [ho] at h
  unfold OnAt at h
  rw [if_pos rfl] at h
  obtain ⟨-, h2, -, h4, -, h6⟩ := h
  simp only [hf] at h4 h6
  refine ⟨h2, h4, ?_⟩
  obtain ⟨fl, rm, dn, ac, ar, lf⟩ := t2
  simp only at h6 ⊢
  cases h6 with
  | cons a1 r1 =>
    cases r1
    rename_i y1
    obtain ⟨n1, g1⟩ := y1
    simp only at a1
    obtain ⟨rfl, g, hg, rfl⟩ := a1
    simp only [List.cons.injEq, Prod.mk.injEq, and_true, true_and]
    simp only [List.length_nil] at hg
    have : g = 0 := by omega
    subst this
    rfl

theorem openS_live {t : Tp} {pre : List UInt8} {size off : Int} (hd : t.down = false) (hf : t.files = [(fileN pre off.toNat, ⟨[], 0⟩)]) (h0 : 0 ≤ off) (h1 : off ≤ 1099511627776) :
    openS t pre size = (t, some ⟨pre, size, [⟨off, []⟩], t.life, false⟩, 0) := by
  have hne : ¬ fileN pre off.toNat = freshN pre := fun e => by
    have h2 := fileN_len (pre := pre) (n := off.toNat) (by omega)
    rw [e] at h2
    simp [freshN] at h2
  have hfr : fget t.files (freshN pre) = none := by rw [hf]; simp [fget, hne]
  have hdr : dropT t (freshN pre) = (t, 12) := by unfold dropT; rw [hd, if_neg (by decide), hfr]
  have hnm : namesV t = [⟨off, []⟩].map (nmS pre) := namesV_of (by rw [hf]; exact List.Perm.refl _) (by simp)
  have hw := findF_whole (pre := pre) hd [⟨off, []⟩] [] off ⟨rfl, trivial, trivial⟩ (fun h => absurd rfl h) (by simpa using ⟨h0, h1⟩) (by
    intro g hg
    simp only [List.mem_singleton] at hg
    subst hg
    exact ⟨⟨[], 0⟩, by rw [hf]; simp [fget, nmS], rfl⟩) (by simp)
  have hft : findT t ⟨pre, size, [], t.life, false⟩ = (t, ⟨pre, size, [⟨off, []⟩], t.life, false⟩, 0) := by
    unfold findT
    rw [hnm]
    simp only
    rw [hw]
    rfl
  unfold openS
  rw [hd, if_neg (by decide), hdr]
  simp only
  rw [if_neg (by decide), hft]
  simp only
  rw [if_pos trivial]
end Go.Proofs.YtcpaaleogmiamaaGreatDoor
namespace Go.Proofs.YtcpaaleogmiamaaGreatDoor
open Go.RowKit

def dropF (t : Tp) (x : St) (k : Int) : Tp × St × Int :=
  if stReadyB t x = true then (t, x, 10)
  else if k < 0 ∨ (0 < k ∧ (x.segs.length : Int) ≤ k) then (t, x, 1)
  else dropS t x 0 k.toNat

set_option maxRecDepth 100000 in
set_option maxHeartbeats 4000000 in
theorem StDrop_any {w0 w : World} {S : Nat → Prop} {sb b mb : Nat} {L : TpL} {x : St} {t : Tp} (hE : Env w0) (h : Sd w0 w S sb b mb L x t) (k : Int) (hsl : x.segs.length ≤ 1000000) :
    Calls Tryz.prog 55 #[.pointer (some ⟨sb, 0, none⟩), .int .i64 k] w (SdTo w0 w S sb b mb L (dropF t x k)) := by
  obtain ⟨R, hR⟩ : ∃ R, dropF t x k = R := ⟨_, rfl⟩
  rw [hR]
  have hrd := Stready_any h.st h.tp
  obtain ⟨rb, hrb⟩ : ∃ r, stReadyB t x = r := ⟨_, rfl⟩
  rw [hrb] at hrd
  rw [dropF, hrb] at hR
  have HR := Lib.hid hrd
  have H := Lib.hid h
  clear hrd hrb h
  cases rb with
  | true =>
    rw [if_pos rfl] at hR
    simp only [if_true] at HR
    subst hR
    go_enter Tryz.func55, Tryz.ntmps55
    go_wp2_with (first | (go_at_call 86; refine HR.out.mono ?_; rintro _ w1 ⟨rfl, hb1⟩))
    go_ret
    exact SdTo.same H.out 10 hb1
  | false =>
    rw [if_neg (by decide)] at hR
    simp only [Bool.false_eq_true, if_false] at HR
    obtain ⟨gv, m, D, hin⟩ := H.out.st
    obtain ⟨ga, gc, rfl, -⟩ := hin.seg
    obtain ⟨n, hn⟩ : ∃ n, x.segs.length = n := ⟨_, rfl⟩
    have hc3 : ∀ W, Below w.heap.size w W → W.cell? ⟨sb, 3, none⟩ = some (.slice ga n gc) := fun W hW => by rw [← hn]; exact (hin.below hW).cells.2.2.2.1
    have hdr : ∀ (i : Nat) W, k = (i : Int) → i ≤ n → Below w.heap.size w W → Calls Tryz.prog 123 #[.pointer (some ⟨sb, 0, none⟩), .int .i64 0, .int .i64 k] W (SdTo w0 W S sb b mb L (dropS t x 0 i)) := fun i W hk hi hW => by
      rw [hk]
      exact Stdrop_any hE (H.out.below hW) 0 i (by rw [hn]; omega) hsl
    have HC := Lib.hid hc3
    have HDR := Lib.hid hdr
    rw [hn] at hR
    clear hc3 hdr hin hn
    by_cases h1 : k < 0
    · rw [if_pos (.inl h1)] at hR
      have HRR := Lib.hid hR
      clear hR
      go_enter Tryz.func55, Tryz.ntmps55
      go_wp2_with fail
      refine HR.out.mono ?_
      rintro _ w1 ⟨rfl, hb1⟩
      have c3 := HC.out _ hb1
      go_wp2
      go_ret
      rw [← HRR.out]
      exact SdTo.same H.out 1 hb1
    · by_cases h2 : 0 < k
      · by_cases h3 : (n : Int) ≤ k
        · rw [if_pos (.inr ⟨h2, h3⟩)] at hR
          have HRR := Lib.hid hR
          clear hR
          go_enter Tryz.func55, Tryz.ntmps55
          go_wp2_with fail
          refine HR.out.mono ?_
          rintro _ w1 ⟨rfl, hb1⟩
          have c3 := HC.out _ hb1
          go_wp2
          go_ret
          rw [← HRR.out]
          exact SdTo.same H.out 1 hb1
        · rw [if_neg (by omega)] at hR
          have HRR := Lib.hid hR
          have hkn : k = (k.toNat : Int) := by omega
          have hkl : k.toNat ≤ n := by omega
          have HKN := Lib.hid (And.intro hkn hkl)
          clear hR hkn hkl
          go_enter Tryz.func55, Tryz.ntmps55
          go_wp2_with fail
          refine HR.out.mono ?_
          rintro _ w1 ⟨rfl, hb1⟩
          have c3 := HC.out _ hb1
          have HB := Lib.hid hb1
          clear hb1
          go_wp2_with fail
          refine (HDR.out _ _ HKN.out.1 HKN.out.2 HB.out).mono ?_
          rintro e w2 hs
          rw [HRR.out] at hs
          have hfin := SdTo.since (Upd.of_below HB.out) (fun _ h => .inl h) (fun _ h => .inl h) hs
          obtain ⟨v, rfl⟩ : ∃ v, e = .returned v := by obtain ⟨_, _, e1, -⟩ := hfin; exact ⟨_, e1⟩
          have HFIN := Lib.hid hfin
          clear hs hfin
          go_wp2
          go_ret
          exact HFIN.out
      · obtain rfl : k = 0 := by omega
        rw [if_neg (by omega)] at hR
        have HRR := Lib.hid hR
        clear hR
        go_enter Tryz.func55, Tryz.ntmps55
        go_wp2_with fail
        refine HR.out.mono ?_
        rintro _ w1 ⟨rfl, hb1⟩
        have c3 := HC.out _ hb1
        have HB := Lib.hid hb1
        clear hb1
        go_wp2_with fail
        refine (HDR.out 0 _ rfl (Nat.zero_le _) HB.out).mono ?_
        rintro e w2 hs
        have hs2 : SdTo w0 w1 S sb b mb L R e w2 := by rw [← HRR.out]; exact hs
        have hfin := SdTo.since (Upd.of_below HB.out) (fun _ h => .inl h) (fun _ h => .inl h) hs2
        obtain ⟨v, rfl⟩ : ∃ v, e = .returned v := by obtain ⟨_, _, e1, -⟩ := hfin; exact ⟨_, e1⟩
        have HFIN := Lib.hid hfin
        clear hs hs2 hfin
        go_wp2
        go_ret
        exact HFIN.out
end Go.Proofs.YtcpaaleogmiamaaGreatDoor
namespace Go.Proofs.YtcpaaleogmiamaaGreatDoor
open Go.RowKit

/-- A tape that lives, its files the segments', word by word. -/
structure Full (t : Tp) (x : St) : Prop where
  live : Live t x
  tied : Tied x.pre x.segs t.files

theorem appT_files {t : Tp} {n s : List UInt8} (hd : t.down = false) (ha : t.armed = 0) (h : (appT t n s).2 = 0) :
    (appT t n s).1.files = if n ∈ t.files.map (·.1) then updF t.files n (appF s) else t.files ++ [(n, ⟨s, 0⟩)] := by
  unfold appT at h ⊢
  rw [hd, if_neg (by decide)] at h ⊢
  split at h
  · rename_i hn
    rw [if_pos hn]
    split at h
    · rename_i hf
      split at h
      · exact absurd h (by simp)
      · rename_i hc
        rw [if_neg hc, actT_calm (by exact ha), if_neg (fget_not hf)]
    · rename_i f hf
      split at h
      · exact absurd h (by simp)
      · rename_i hc
        rw [if_neg hc, actT_calm (by exact ha), if_pos (List.mem_map.2 ⟨_, fget_in hf, rfl⟩)]
  · exact absurd h (by simp)

/-- All files are safe. -/
def Sure (pre : List UInt8) (s : List Sg) (l : List (List UInt8 × Fl)) : Prop := ∀ g ∈ s, ∃ f, fget l (nmS pre g) = some f ∧ f.safe = f.data.length

theorem syncS_full {t : Tp} {x : St} (h : Full t x) : ∃ t', syncS t x = (t', x, 0) ∧ Calm t t' ∧ t'.files.map (·.1) = t.files.map (·.1) ∧ Tied x.pre x.segs t'.files ∧ Sure x.pre x.segs t'.files := by
  rw [syncS, h.live.ready, if_neg (by decide)]
  cases hl : x.segs.getLast? with
  | none =>
    have hn : x.segs = [] := by simpa using hl
    exact ⟨t, rfl, Calm.refl t, rfl, h.tied, by rw [hn]; intro g hg; cases hg⟩
  | some g =>
    have hm : fileS x g.base ∈ t.files.map (·.1) := h.live.names.mem_iff.2 (List.mem_map.2 ⟨g, List.mem_of_getLast? hl, rfl⟩)
    obtain ⟨f, hf⟩ := fget_some hm
    have hs : syncT t (fileS x g.base) = ({ t with files := updF t.files (fileS x g.base) syncF, acts := wrap64 (t.acts + 1) }, 0) := by
      unfold syncT
      rw [h.live.down, if_neg (by decide), hf, actT_calm h.live.armed]
      simp only
      rw [if_pos trivial, h.live.down]
    simp only
    rw [hs]
    obtain ⟨m, hms⟩ := List.getLast?_eq_some_iff.1 hl
    have ht := h.tied
    have hr := h.live.row
    rw [hms] at ht hr
    obtain ⟨q1, q2⟩ := ht.sure hr
    exact ⟨{ t with files := updF t.files (fileS x g.base) syncF, acts := wrap64 (t.acts + 1) }, by rw [stDid_zero], ⟨rfl, rfl, rfl, rfl⟩, updF_names _ _ _, by rw [hms]; exact q1, by rw [hms]; exact q2⟩

theorem fullS_full {t : Tp} {x : St} {b : Batch} (h : Full t x) (hr : Row (x.segs ++ [⟨b.base, [b]⟩])) : Full (fullS t x b).1 (fullS t x b).2.1 := by
  refine ⟨(fullS_live h.live hr).1, ?_⟩
  obtain ⟨t1, h1, h2, h3, h4, h5⟩ := syncS_full h
  have hL := h.live.calm h2 h3
  have hap := appT_calm (n := fileS x b.base) (s := frameB (encB b)) hL.down hL.armed
  have haf := appT_files (n := fileS x b.base) (s := frameB (encB b)) hL.down hL.armed
  unfold fullS
  rw [h1]
  simp only
  rw [if_neg (by simp)]
  obtain ⟨r, hr0⟩ : ∃ r, appT t1 (fileS x b.base) (frameB (encB b)) = r := ⟨_, rfl⟩
  rw [hr0] at hap haf ⊢
  obtain ⟨p1, p2, p3⟩ := hap
  simp only
  by_cases h0 : r.2 = 0
  · rw [if_pos h0, stDid_zero, haf h0, if_neg]
    · have := h4.add (g := ⟨b.base, [b]⟩) (k := 0) hr h5
      have e : sgB [b] = frameB (encB b) := by simp [sgB]
      rw [e] at this
      exact this
    · rw [hL.names.mem_iff]
      exact nm_new (g := ⟨b.base, [b]⟩) hr x.pre
  · obtain ⟨q1, q2⟩ := p3 h0
    rw [if_neg h0, stDid_other _ q2, q1]
    exact h4

theorem appS_full {t : Tp} {x : St} (b : Batch) (h : Full t x) (hz : 1 ≤ x.size) : Full (appS t x b).1 (appS t x b).2.1 := by
  unfold appS
  rw [h.live.ready, if_neg (by decide)]
  split
  · exact h
  split
  · exact h
  rename_i hg he
  have hg : goodB b = true := by simpa using hg
  have he : b.base = endS x.segs := by simpa using he
  split
  · rename_i g hl
    split
    · obtain ⟨q1, q2⟩ := h.live.row.more hl hg he x.pre
      have hap := appT_calm (n := fileS x g.base) (s := frameB (encB b)) h.live.down h.live.armed
      have haf := appT_files (n := fileS x g.base) (s := frameB (encB b)) h.live.down h.live.armed
      unfold moreS
      obtain ⟨r, hr0⟩ : ∃ r, appT t (fileS x g.base) (frameB (encB b)) = r := ⟨_, rfl⟩
      rw [hr0] at hap haf ⊢
      obtain ⟨p1, p2, p3⟩ := hap
      simp only
      by_cases h0 : r.2 = 0
      · rw [if_pos h0, stDid_zero]
        have hm : fileS x g.base ∈ t.files.map (·.1) := h.live.names.mem_iff.2 (List.mem_map.2 ⟨g, List.mem_of_getLast? hl, rfl⟩)
        have hfl := haf h0
        rw [if_pos hm] at hfl
        refine ⟨⟨p1.down.trans h.live.down, p1.armed.trans h.live.armed, h.live.dead, p1.life.trans h.live.life, ?_, q1⟩, ?_⟩
        · rw [p2 h0, if_pos hm]
          simp only
          rw [q2]
          exact h.live.names
        · simp only
          rw [hfl]
          obtain ⟨m, hms⟩ := List.getLast?_eq_some_iff.1 hl
          have ht := h.tied
          have hr := h.live.row
          rw [hms] at ht hr ⊢
          rw [set_last]
          exact ht.last hr (g' := ⟨g.base, g.list ++ [b]⟩) rfl (F := appF (frameB (encB b))) (fun f hf => by simp [appF, hf, sgB])
      · obtain ⟨r1, r2⟩ := p3 h0
        rw [if_neg h0, stDid_other _ r2, r1]
        exact h
    · rename_i hlt
      refine fullS_full h (h.live.row.push (fun g' hg' => ?_) hg he)
      rw [hl] at hg'
      simp only [Option.some.injEq] at hg'
      subst hg'
      intro e
      rw [e] at hlt
      simp only [sgB, List.flatMap_nil, List.length_nil] at hlt
      omega
  · rename_i hl
    refine fullS_full h (h.live.row.push (fun g' hg' => ?_) hg he)
    rw [hl] at hg'
    cases hg'

/-! ### The first segments go -/
theorem fget_erase (n m : List UInt8) (h : n ≠ m) : ∀ l : List (List UInt8 × Fl), fget (l.eraseP (fun x => decide (x.1 = n))) m = fget l m
  | [] => rfl
  | x :: l => by
    by_cases e : x.1 = n
    · rw [List.eraseP_cons_of_pos (by simpa using e)]
      have : ¬ x.1 = m := fun e2 => h (e.symm.trans e2)
      simp [fget, this]
    · rw [List.eraseP_cons_of_neg (by simpa using e)]
      have ih := fget_erase n m h l
      unfold fget at ih ⊢
      by_cases e2 : x.1 = m
      · simp [e2]
      · simp only [List.find?_cons, e2, decide_false]
        exact ih

theorem Row.tail {g : Sg} {s : List Sg} (h : Row (g :: s)) : Row s := by
  obtain ⟨n, hn, h1, h2, h3⟩ := h.chain
  refine ⟨⟨endL n g.list, by have := endL_ge h2; omega, h3⟩, fun x hx => h.full x ?_, fun x hx => h.lim x (by simp [hx])⟩
  cases s with
  | nil => cases hx
  | cons y s => rw [List.dropLast_cons_cons]; exact List.mem_cons_of_mem _ hx

theorem Tied.tail {pre : List UInt8} {g : Sg} {s : List Sg} {l : List (List UInt8 × Fl)} (h : Tied pre (g :: s) l) (hr : Row (g :: s)) : Tied pre s (l.eraseP (fun x => decide (x.1 = nmS pre g))) := by
  have hne : ∀ x ∈ s, nmS pre g ≠ nmS pre x := by
    intro x hx e
    have := hr.names pre
    rw [List.map_cons, List.pairwise_cons] at this
    have := this.1 _ (List.mem_map_of_mem hx)
    rw [e] at this
    exact List.lt_irrefl _ this
  refine ⟨?_, fun x hx => ?_, fun x hx => ?_⟩
  · rw [eraseP_names]
    have := h.names.erase (nmS pre g)
    rw [List.map_cons, List.erase_cons_head] at this
    exact this
  · rw [fget_erase _ _ (hne x hx)]
    exact h.data x (by simp [hx])
  · have hx2 : x ∈ s := (List.dropLast_sublist s).subset hx
    rw [fget_erase _ _ (hne x hx2)]
    refine h.safe x ?_
    cases s with
    | nil => cases hx
    | cons y s => rw [List.dropLast_cons_cons]; exact List.mem_cons_of_mem _ hx

theorem dropS_full : ∀ (k : Nat) (t : Tp) (x : St), Full t x → k ≤ x.segs.length → ∃ t', dropS t x 0 k = (t', { x with segs := x.segs.drop k }, 0) ∧ Calm t t' ∧ Full t' { x with segs := x.segs.drop k }
  | 0, t, x, h, _ => ⟨t, by rw [dropS]; rfl, Calm.refl t, h⟩
  | k + 1, t, x, h, hk => by
    cases hs : x.segs with
    | nil => rw [hs] at hk; simp at hk
    | cons g s =>
      have hm : fileS x g.base ∈ t.files.map (·.1) := h.live.names.mem_iff.2 (by rw [hs]; simp [nmS, fileS])
      obtain ⟨f, hf⟩ := fget_some hm
      have hdr : dropT t (fileS x g.base) = ({ t with files := t.files.eraseP (fun x_1 => decide (x_1.1 = fileS x g.base)), acts := wrap64 (t.acts + 1) }, 0) := by
        unfold dropT
        rw [h.live.down, if_neg (by decide), hf]
        simp only
        rw [actT_calm (by exact h.live.armed)]
      have ht := h.tied
      have hr := h.live.row
      rw [hs] at ht hr
      have hF : Full { t with files := t.files.eraseP (fun x_1 => decide (x_1.1 = fileS x g.base)), acts := wrap64 (t.acts + 1) } { x with segs := s } := by
        have h1 := ht.tail hr
        exact ⟨⟨h.live.down, h.live.armed, h.live.dead, h.live.life, h1.names, hr.tail⟩, h1⟩
      rw [dropS, hs]
      simp only [List.getElem?_cons_zero]
      rw [hdr]
      simp only
      rw [if_pos trivial, List.eraseIdx_cons_zero]
      obtain ⟨t', h1, h2, h3⟩ := dropS_full k _ _ hF (by rw [hs] at hk; simpa using hk)
      exact ⟨t', h1, ⟨h2.down, h2.armed, h2.life, h2.room⟩, h3⟩

/-! ### The power goes, all files safe -/
theorem fget_nodup {l : List (List UInt8 × Fl)} (h : (l.map (·.1)).Nodup) {y : List UInt8 × Fl} (hy : y ∈ l) : fget l y.1 = some y.2 := by
  induction l with
  | nil => cases hy
  | cons x l ih =>
    rw [List.map_cons, List.nodup_cons] at h
    rcases List.mem_cons.1 hy with rfl | hy
    · simp [fget]
    · have hne : ¬ x.1 = y.1 := fun e => h.1 (by rw [e]; exact List.mem_map_of_mem hy)
      have := ih h.2 hy
      unfold fget at this ⊢
      simp only [List.find?_cons, hne, decide_false]
      exact this

theorem sure_files {t : Tp} {x : St} (h : Live t x) (hs : Sure x.pre x.segs t.files) : ∀ y ∈ t.files, y.2.safe = y.2.data.length := by
  intro y hy
  have hnd : (t.files.map (·.1)).Nodup := by
    refine h.names.nodup_iff.2 ?_
    exact (h.row.names x.pre).imp (fun {a b} hlt e => by subst e; exact List.lt_irrefl _ hlt)
  have hm : y.1 ∈ x.segs.map (nmS x.pre) := h.names.mem_iff.1 (List.mem_map_of_mem hy)
  obtain ⟨g, hg, e⟩ := List.mem_map.1 hm
  obtain ⟨f, h1, h2⟩ := hs g hg
  rw [e, fget_nodup hnd hy] at h1
  simp only [Option.some.injEq] at h1
  subst h1
  exact h2

theorem onAt_sure {t t2 : Tp} (hd : t.down = false) (hs : ∀ y ∈ t.files, y.2.safe = y.2.data.length) (h : OnAt (offT t) t2) : t2.down = false ∧ t2.armed = 0 ∧ t2.files = t.files ∧ t2.room = t.room := by
  have ho : offT t = { t with down := true, armed := 0, life := wrap64 (t.life + 1) } := by unfold offT; rw [hd, if_neg (by decide)]
  rw [ho] at h
  unfold OnAt at h
  rw [if_pos rfl] at h
  obtain ⟨h1, h2, -, h4, -, h6⟩ := h
  simp only at h1 h4 h6
  refine ⟨h2, h4, ?_, h1⟩
  generalize t2.files = l2 at h6
  generalize t.files = l at h6 hs
  clear h1 h2 h4 ho hd
  induction h6 with
  | nil => rfl
  | @cons a b la lb q r ih =>
    obtain ⟨n1, f1⟩ := a
    obtain ⟨n2, f2⟩ := b
    obtain ⟨e, g, hg, e2⟩ := q
    simp only at e hg e2
    have hz := hs (n1, f1) (by simp)
    simp only at hz
    have : g = 0 := by omega
    subst this
    rw [ih (fun y hy => hs y (by simp [hy])), e, e2]
    obtain ⟨d, s⟩ := f1
    simp only at hz
    subst hz
    simp [onF]

theorem openS_full {t : Tp} {pre : List UInt8} {size : Int} {s : List Sg} (hd : t.down = false) (ht : Tied pre s t.files) (hr : Row s) : openS t pre size = (t, some ⟨pre, size, s, t.life, false⟩, 0) := by
  have hfr : fget t.files (freshN pre) = none := fget_not' (fun hm => by
    obtain ⟨g, hg, e⟩ := List.mem_map.1 (ht.names.mem_iff.1 hm)
    have h2 := fileN_len (pre := pre) (n := g.base.toNat) (by have := hr.lim g hg; omega)
    rw [show fileN pre g.base.toNat = nmS pre g from rfl, e] at h2
    simp [freshN] at h2)
  have hdr : dropT t (freshN pre) = (t, 12) := by unfold dropT; rw [hd, if_neg (by decide), hfr]
  obtain ⟨n, hn, hc⟩ := hr.chain
  have hw := findF_whole (pre := pre) hd s [] n hc (fun h => absurd rfl h) hr.lim ht.data hr.full
  have hft : findT t ⟨pre, size, [], t.life, false⟩ = (t, ⟨pre, size, s, t.life, false⟩, 0) := by
    unfold findT
    rw [ht.namesV hr]
    simp only
    rw [hw]
    simp
  unfold openS
  rw [hd, if_neg (by decide), hdr]
  simp only
  rw [if_neg (by decide), hft]
  simp only
  rw [if_pos trivial]
end Go.Proofs.YtcpaaleogmiamaaGreatDoor
