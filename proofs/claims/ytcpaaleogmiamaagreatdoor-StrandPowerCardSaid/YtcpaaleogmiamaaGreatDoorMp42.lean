/- Plain law of StrandPower: wherever the power goes in Append or Sync, what is found again is a beginning of what was given that has all that was safe. -/
import Derived.Test.YtcpaaleogmiamaaGreatDoorMp41
namespace Go.Proofs.YtcpaaleogmiamaaGreatDoor
open Go.RowKit

/-- So many batches are safe. -/
def SafeTo (pre : List UInt8) (s : List Sg) (l : List (List UInt8 × Fl)) (k : Nat) : Prop :=
  k ≤ (allB s).length ∧ ∀ m g, s = m ++ [g] → ∃ f j, fget l (nmS pre g) = some f ∧ j ≤ g.list.length ∧ k ≤ (allB m).length + j ∧ (sgB (g.list.take j)).length ≤ f.safe
structure Disk (pre : List UInt8) (s : List Sg) (l : List (List UInt8 × Fl)) (k : Nat) : Prop where
  row : Row s
  tied : Tied pre s l
  safe : SafeTo pre s l k
/-- A strand whose tape has power. -/
structure Pw (t : Tp) (x : St) (k : Nat) : Prop where
  down : t.down = false
  dead : x.dead = false
  life : t.life = x.life
  disk : Disk x.pre x.segs t.files k
theorem Pw.ready {t : Tp} {x : St} {k : Nat} (h : Pw t x k) : stReadyB t x = false := by simp [stReadyB, h.down, h.dead, h.life]
theorem Disk.less {pre : List UInt8} {s : List Sg} {l : List (List UInt8 × Fl)} {k k' : Nat} (h : Disk pre s l k) (hk : k' ≤ k) : Disk pre s l k' := by
  refine ⟨h.row, h.tied, Nat.le_trans hk h.safe.1, fun m g hs => ?_⟩
  obtain ⟨f, j, h1, h2, h3, h4⟩ := h.safe.2 m g hs
  exact ⟨f, j, h1, h2, by omega, h4⟩

theorem offT_off {t : Tp} (h : t.down = false) : offT t = { t with down := true, armed := 0, life := wrap64 (t.life + 1) } := by unfold offT; rw [h, if_neg (by decide)]
theorem offT_down (t : Tp) : (offT t).down = true := by
  cases h : t.down with
  | true => unfold offT; rw [h, if_pos rfl]; exact h
  | false => rw [offT_off h]
theorem offT_room (t : Tp) : (offT t).room = t.room := by
  cases h : t.down with
  | true => unfold offT; rw [h, if_pos rfl]
  | false => rw [offT_off h]
theorem offT_armed {t : Tp} (h : t.down = true → t.armed = 0) : (offT t).armed = 0 := by
  cases hd : t.down with
  | true => unfold offT; rw [hd, if_pos rfl]; exact h hd
  | false => rw [offT_off hd]

/-- An act: it is done, or the power goes in it. -/
theorem actT_pw {t : Tp} (hd : t.down = false) : (actT t).1.files = t.files ∧ (actT t).1.room = t.room ∧ (((actT t).2 = 0 ∧ (actT t).1.down = false ∧ (actT t).1.life = t.life) ∨ ((actT t).2 = 10 ∧ (actT t).1.down = true ∧ (actT t).1.armed = 0)) := by
  unfold actT
  split
  · exact ⟨rfl, rfl, .inl ⟨rfl, hd, rfl⟩⟩
  · split
    · exact ⟨rfl, rfl, .inl ⟨rfl, hd, rfl⟩⟩
    · rw [offT_off (by exact hd)]
      exact ⟨rfl, rfl, .inr ⟨rfl, rfl, rfl⟩⟩
theorem appT_pw {t : Tp} {n s : List UInt8} (hd : t.down = false) :
    ((appT t n s).1.room = t.room ∧ (appT t n s).1.files = (if n ∈ t.files.map (·.1) then updF t.files n (appF s) else t.files ++ [(n, ⟨s, 0⟩)]) ∧ (((appT t n s).2 = 0 ∧ (appT t n s).1.down = false ∧ (appT t n s).1.life = t.life) ∨ ((appT t n s).2 = 10 ∧ (appT t n s).1.down = true ∧ (appT t n s).1.armed = 0))) ∨
    ((appT t n s).2 ≠ 0 ∧ (appT t n s).2 ≠ 10 ∧ (appT t n s).1 = t) := by
  unfold appT
  rw [if_neg (by rw [hd]; decide)]
  split
  · split
    · rename_i hf
      split
      · exact .inr ⟨by simp, by simp, rfl⟩
      · left
        rw [if_neg (fget_not hf)]
        obtain ⟨h1, h2, h3⟩ := actT_pw (t := { t with files := t.files ++ [(n, ⟨s, 0⟩)] }) hd
        exact ⟨h2, h1, h3⟩
    · rename_i f hf
      split
      · exact .inr ⟨by simp, by simp, rfl⟩
      · left
        rw [if_pos (List.mem_map.2 ⟨_, fget_in hf, rfl⟩)]
        obtain ⟨h1, h2, h3⟩ := actT_pw (t := { t with files := updF t.files n (appF s) }) hd
        exact ⟨h2, h1, h3⟩
  · exact .inr ⟨by simp, by simp, rfl⟩
theorem syncT_pw {t : Tp} {n : List UInt8} {f : Fl} (hd : t.down = false) (hf : fget t.files n = some f) :
    (syncT t n).1.room = t.room ∧ (((syncT t n).2 = 0 ∧ (syncT t n).1.down = false ∧ (syncT t n).1.life = t.life ∧ (syncT t n).1.files = updF t.files n syncF) ∨ ((syncT t n).2 = 10 ∧ (syncT t n).1.down = true ∧ (syncT t n).1.armed = 0 ∧ (syncT t n).1.files = t.files)) := by
  obtain ⟨h1, h2, h3⟩ := actT_pw hd
  unfold syncT
  rw [hd, if_neg (by decide), hf]
  simp only
  rcases h3 with ⟨a1, a2, a3⟩ | ⟨a1, a2, a3⟩
  · rw [if_pos a1]
    exact ⟨h2, .inl ⟨rfl, a2, a3, by simp only [h1]⟩⟩
  · rw [if_neg (by rw [a1]; decide)]
    exact ⟨h2, .inr ⟨a1, a2, a3, h1⟩⟩

/-! ### What is on the disk -/
theorem snoc_inj {m m' : List Sg} {g g' : Sg} (h : m ++ [g] = m' ++ [g']) : m = m' ∧ g = g' := by
  have h1 := List.append_inj' h rfl
  exact ⟨h1.1, by simpa using h1.2⟩
theorem allB_snoc (m : List Sg) (g : Sg) : allB (m ++ [g]) = allB m ++ g.list := by simp [allB]
theorem Disk.sync {pre : List UInt8} {m : List Sg} {g : Sg} {l : List (List UInt8 × Fl)} {k : Nat} (h : Disk pre (m ++ [g]) l k) : Disk pre (m ++ [g]) (updF l (nmS pre g) syncF) (allB (m ++ [g])).length ∧ Sure pre (m ++ [g]) (updF l (nmS pre g) syncF) := by
  obtain ⟨q1, q2⟩ := h.tied.sure h.row
  refine ⟨⟨h.row, q1, Nat.le_refl _, fun m' g' hs => ?_⟩, q2⟩
  obtain ⟨rfl, rfl⟩ := snoc_inj hs
  obtain ⟨f, f1, f2⟩ := q2 g (by simp)
  obtain ⟨f', f3, f4⟩ := q1.data g (by simp)
  rw [f1] at f3
  simp only [Option.some.injEq] at f3
  subst f3
  refine ⟨f, g.list.length, f1, Nat.le_refl _, by rw [allB_snoc, List.length_append]; exact Nat.le_refl _, ?_⟩
  rw [List.take_length, f2, f4]
  exact Nat.le_refl _
theorem Disk.more {pre : List UInt8} {m : List Sg} {g : Sg} {l : List (List UInt8 × Fl)} {k : Nat} {b : Batch} (h : Disk pre (m ++ [g]) l k) (hg : goodB b = true) (he : b.base = endS (m ++ [g])) : Disk pre (m ++ [⟨g.base, g.list ++ [b]⟩]) (updF l (nmS pre g) (appF (frameB (encB b)))) k := by
  have hr := (h.row.more (g := g) (by simp) hg he pre).1
  rw [set_last] at hr
  refine ⟨hr, h.tied.last h.row (g' := ⟨g.base, g.list ++ [b]⟩) rfl (F := appF (frameB (encB b))) (fun f hf => by simp [appF, hf, sgB]), ?_, fun m' g' hs => ?_⟩
  · have := h.safe.1
    rw [allB_snoc, List.length_append] at this ⊢
    simp only [List.length_append]
    omega
  · obtain ⟨rfl, rfl⟩ := snoc_inj hs
    obtain ⟨f, j, h1, h2, h3, h4⟩ := h.safe.2 m g rfl
    refine ⟨appF (frameB (encB b)) f, j, ?_, by simp only [List.length_append]; omega, h3, ?_⟩
    · have e : nmS pre ⟨g.base, g.list ++ [b]⟩ = nmS pre g := rfl
      rw [e, fget_upd, if_pos rfl, h1]
      rfl
    · simp only [List.take_append_of_le_length h2]
      exact h4
theorem Disk.push {pre : List UInt8} {s : List Sg} {l : List (List UInt8 × Fl)} {k : Nat} {b : Batch} (h : Disk pre s l k) (hs : Sure pre s l) (hr : Row (s ++ [⟨b.base, [b]⟩])) : Disk pre (s ++ [⟨b.base, [b]⟩]) (l ++ [(fileN pre b.base.toNat, ⟨frameB (encB b), 0⟩)]) k := by
  have ha := h.tied.add (g := ⟨b.base, [b]⟩) (k := 0) hr hs
  have e : sgB [b] = frameB (encB b) := by simp [sgB]
  rw [e] at ha
  refine ⟨hr, ha, ?_, fun m' g' hs' => ?_⟩
  · have := h.safe.1
    rw [allB_snoc, List.length_append]
    omega
  · obtain ⟨rfl, rfl⟩ := snoc_inj hs'
    obtain ⟨f, f1, f2⟩ := ha.data ⟨b.base, [b]⟩ (by simp)
    exact ⟨f, 0, f1, Nat.zero_le _, h.safe.1, by simp [sgB]⟩

/-! ### Sync and Append -/
theorem syncS_pw {t : Tp} {x : St} {k : Nat} (h : Pw t x k) : (syncS t x).1.room = t.room ∧
    (((syncS t x).2.2 = 0 ∧ (syncS t x).2.1 = x ∧ Pw (syncS t x).1 x (allB x.segs).length ∧ Sure x.pre x.segs (syncS t x).1.files) ∨ ((syncS t x).2.2 = 10 ∧ (syncS t x).1.down = true ∧ (syncS t x).1.armed = 0 ∧ Disk x.pre x.segs (syncS t x).1.files k)) := by
  unfold syncS
  rw [h.ready, if_neg (by decide)]
  cases hl : x.segs.getLast? with
  | none =>
    have hn : x.segs = [] := by simpa using hl
    refine ⟨rfl, .inl ⟨rfl, rfl, ⟨h.down, h.dead, h.life, ?_⟩, by rw [hn]; intro g hg; cases hg⟩⟩
    have hd := h.disk
    rw [hn] at hd ⊢
    exact ⟨hd.row, hd.tied, Nat.le_refl _, fun m g hs => by simp at hs⟩
  | some g =>
    obtain ⟨m, hms⟩ := List.getLast?_eq_some_iff.1 hl
    have hd := h.disk
    rw [hms] at hd
    obtain ⟨f, hf, -⟩ := hd.tied.data g (by simp)
    have hfs : fileS x g.base = nmS x.pre g := rfl
    obtain ⟨h1, h2⟩ := syncT_pw h.down hf
    simp only
    rw [hfs]
    refine ⟨h1, ?_⟩
    rcases h2 with ⟨a1, a2, a3, a4⟩ | ⟨a1, a2, a3, a4⟩
    · left
      obtain ⟨q1, q2⟩ := hd.sync
      rw [a1, stDid_zero]
      refine ⟨rfl, rfl, ⟨a2, h.dead, a3.trans h.life, ?_⟩, ?_⟩
      · rw [a4, hms]; exact q1
      · rw [a4, hms]; exact q2
    · right
      refine ⟨a1, a2, a3, ?_⟩
      rw [a4]
      exact h.disk

/-- What an act of a batch leaves. -/
def ApPw (t : Tp) (x : St) (b : Batch) (k : Nat) (r : Tp × St × Int) : Prop := r.1.room = t.room ∧ r.2.1.pre = x.pre ∧ r.2.1.size = x.size ∧
  ((r.2.2 = 10 ∧ r.1.down = true ∧ r.1.armed = 0 ∧ ∃ s, Disk x.pre s r.1.files k ∧ s.length ≤ x.segs.length + 1 ∧ (allB s = allB x.segs ∨ allB s = allB x.segs ++ [b])) ∨
   (r.2.2 = 0 ∧ Pw r.1 r.2.1 k ∧ allB r.2.1.segs = allB x.segs ++ [b] ∧ r.2.1.segs.length ≤ x.segs.length + 1) ∨
   (r.2.2 ≠ 0 ∧ r.2.2 ≠ 10 ∧ Pw r.1 r.2.1 k ∧ r.2.1.segs = x.segs))
theorem nm_fresh {pre : List UInt8} {s : List Sg} {l : List (List UInt8 × Fl)} {g : Sg} (h : Tied pre s l) (hr : Row (s ++ [g])) : nmS pre g ∉ l.map (·.1) := by
  rw [h.names.mem_iff]
  exact nm_new hr pre
theorem fullS_pw {t : Tp} {x : St} {b : Batch} {k : Nat} (h : Pw t x k) (hr : Row (x.segs ++ [⟨b.base, [b]⟩])) : ApPw t x b k (fullS t x b) := by
  obtain ⟨s1, s2⟩ := syncS_pw h
  unfold fullS
  obtain ⟨r, hr0⟩ : ∃ r, syncS t x = r := ⟨_, rfl⟩
  rw [hr0] at s1 s2 ⊢
  obtain ⟨t1, x1, c1⟩ := r
  simp only at s1 s2 ⊢
  rcases s2 with ⟨a1, a2, a3, a4⟩ | ⟨a1, a2, a3, a4⟩
  · subst a1
    subst a2
    rw [if_neg (by simp)]
    have hnm : fileS x1 b.base = nmS x1.pre ⟨b.base, [b]⟩ := rfl
    have hnot := nm_fresh a3.disk.tied hr
    have hd2 := (a3.disk.less h.disk.safe.1).push a4 hr
    have hap := appT_pw (n := fileS x1 b.base) (s := frameB (encB b)) a3.down
    obtain ⟨q, hq⟩ : ∃ q, appT t1 (fileS x1 b.base) (frameB (encB b)) = q := ⟨_, rfl⟩
    rw [hq] at hap ⊢
    obtain ⟨t2, c2⟩ := q
    simp only at hap ⊢
    rcases hap with ⟨p1, p2, p3⟩ | ⟨p1, p2, p3⟩
    · rw [hnm, if_neg hnot] at p2
      rcases p3 with ⟨b1, b2, b3⟩ | ⟨b1, b2, b3⟩
      · subst b1
        rw [if_pos rfl, stDid_zero]
        refine ⟨p1.trans s1, rfl, rfl, .inr (.inl ⟨rfl, ⟨b2, h.dead, b3.trans a3.life, ?_⟩, by rw [allB_snoc], by simp⟩)⟩
        show Disk x1.pre (x1.segs ++ [⟨b.base, [b]⟩]) t2.files k
        rw [p2]
        exact hd2
      · subst b1
        rw [if_neg (by decide)]
        refine ⟨p1.trans s1, rfl, rfl, .inl ⟨rfl, b2, b3, x1.segs ++ [⟨b.base, [b]⟩], ?_, by simp, .inr (by rw [allB_snoc])⟩⟩
        show Disk x1.pre _ t2.files k
        rw [p2]
        exact hd2
    · subst p3
      rw [if_neg p1, stDid_other _ p2]
      exact ⟨s1, rfl, rfl, .inr (.inr ⟨p1, p2, ⟨a3.down, a3.dead, a3.life, a3.disk.less h.disk.safe.1⟩, rfl⟩)⟩
  · subst a1
    rw [if_pos (by decide)]
    have hx1 : x1.pre = x.pre ∧ x1.size = x.size := by
      have : (syncS t x).2.1.pre = x.pre ∧ (syncS t x).2.1.size = x.size := by
        unfold syncS
        rw [h.ready, if_neg (by decide)]
        split <;> exact ⟨rfl, rfl⟩
      rw [hr0] at this
      exact this
    exact ⟨s1, hx1.1, hx1.2, .inl ⟨rfl, a2, a3, x.segs, a4, by omega, .inl rfl⟩⟩

theorem appS_pw {t : Tp} {x : St} {k : Nat} (b : Batch) (h : Pw t x k) (hz : 1 ≤ x.size) : ApPw t x b k (appS t x b) := by
  unfold appS
  rw [h.ready, if_neg (by decide)]
  split
  · exact ⟨rfl, rfl, rfl, .inr (.inr ⟨by simp, by simp, h, rfl⟩)⟩
  split
  · exact ⟨rfl, rfl, rfl, .inr (.inr ⟨by simp, by simp, h, rfl⟩)⟩
  rename_i hg he
  have hg : goodB b = true := by simpa using hg
  have he : b.base = endS x.segs := by simpa using he
  split
  · rename_i g hl
    split
    · obtain ⟨m, hms⟩ := List.getLast?_eq_some_iff.1 hl
      have hd := h.disk
      rw [hms] at hd he
      have hd2 := hd.more hg he
      have hm : nmS x.pre g ∈ t.files.map (·.1) := by rw [hd.tied.names.mem_iff]; simp
      have hap := appT_pw (n := fileS x g.base) (s := frameB (encB b)) h.down
      have hnm : fileS x g.base = nmS x.pre g := rfl
      unfold moreS
      obtain ⟨q, hq⟩ : ∃ q, appT t (fileS x g.base) (frameB (encB b)) = q := ⟨_, rfl⟩
      rw [hq] at hap ⊢
      obtain ⟨t2, c2⟩ := q
      simp only at hap ⊢
      have hset : x.segs.set (x.segs.length - 1) ⟨g.base, g.list ++ [b]⟩ = m ++ [⟨g.base, g.list ++ [b]⟩] := by rw [hms, set_last]
      have hall : allB (m ++ [⟨g.base, g.list ++ [b]⟩]) = allB x.segs ++ [b] := by rw [hms, allB_snoc, allB_snoc]; simp
      have hlen : (m ++ [(⟨g.base, g.list ++ [b]⟩ : Sg)]).length ≤ x.segs.length + 1 := by rw [hms]; simp
      rcases hap with ⟨p1, p2, p3⟩ | ⟨p1, p2, p3⟩
      · rw [hnm, if_pos hm] at p2
        rcases p3 with ⟨b1, b2, b3⟩ | ⟨b1, b2, b3⟩
        · subst b1
          rw [if_pos rfl, stDid_zero, hset]
          refine ⟨p1, rfl, rfl, .inr (.inl ⟨rfl, ⟨b2, h.dead, b3.trans h.life, ?_⟩, hall, hlen⟩)⟩
          show Disk x.pre _ t2.files k
          rw [p2]
          exact hd2
        · subst b1
          rw [if_neg (by decide)]
          refine ⟨p1, rfl, rfl, .inl ⟨rfl, b2, b3, _, ?_, hlen, .inr hall⟩⟩
          show Disk x.pre _ t2.files k
          rw [p2]
          exact hd2
      · subst p3
        rw [if_neg p1, stDid_other _ p2]
        exact ⟨rfl, rfl, rfl, .inr (.inr ⟨p1, p2, h, rfl⟩)⟩
    · rename_i hlt
      refine fullS_pw h (h.disk.row.push (fun g' hg' => ?_) hg he)
      rw [hl] at hg'
      simp only [Option.some.injEq] at hg'
      subst hg'
      intro e
      rw [e] at hlt
      simp only [sgB, List.flatMap_nil, List.length_nil] at hlt
      omega
  · rename_i hl
    refine fullS_pw h (h.disk.row.push (fun g' hg' => ?_) hg he)
    rw [hl] at hg'
    cases hg'

/-! ### The power is back -/
theorem all2_get {l l2 : List (List UInt8 × Fl)} (h : All2 (fun x y => y.1 = x.1 ∧ KeptF x.2 y.2) l l2) {n : List UInt8} {f : Fl} (hf : fget l n = some f) : ∃ f2, fget l2 n = some f2 ∧ KeptF f f2 := by
  induction h with
  | nil => cases hf
  | @cons a c la lc q r ih =>
    obtain ⟨n1, f1⟩ := a
    obtain ⟨n2, f2⟩ := c
    obtain ⟨e, hk⟩ := q
    simp only at e hk
    subst e
    by_cases hn : n2 = n
    · subst hn
      have : f1 = f := by simpa [fget] using hf
      subst this
      exact ⟨f2, by simp [fget], hk⟩
    · have h1 : fget la n = some f := by simpa [fget, hn] using hf
      obtain ⟨f3, h2, h3⟩ := ih h1
      exact ⟨f3, by simpa [fget, hn] using h2, h3⟩
theorem kept_sure {f f2 : Fl} (h : KeptF f f2) (hs : f.safe = f.data.length) : f2 = f := by
  obtain ⟨g, h1, rfl⟩ := h
  have : g = 0 := by omega
  subst this
  obtain ⟨d, s⟩ := f
  simp only at hs
  subst hs
  simp [onF]

theorem findF_snoc {pre : List UInt8} {t : Tp} (hd : t.down = false) : ∀ (s acc : List Sg) (n : Int) (rest : List (List UInt8)), ChainS n s → (acc ≠ [] → endS acc = n) → (∀ g ∈ s, 0 ≤ g.base ∧ g.base ≤ 1099511627776) → (∀ g ∈ s, ∃ f, fget t.files (nmS pre g) = some f ∧ f.data = sgB g.list) →
    findF pre (s.map (nmS pre) ++ rest) t acc false = findF pre rest t (acc ++ s) false
  | [], acc, _, _, _, _, _, _ => by simp
  | g :: s, acc, n, rest, hc, ha, hb, hf => by
    obtain ⟨h1, h2, h3⟩ := hc
    obtain ⟨b1, b2⟩ := hb g (by simp)
    obtain ⟨f, f1, f2⟩ := hf g (by simp)
    have hbn : baseN pre (nmS pre g) = some g.base.toNat := baseN_file (by omega)
    have hgb : (g.base.toNat : Int) = g.base := by omega
    have hrd : readT t (nmS pre g) = (sgB g.list, 0) := by unfold readT; rw [hd, if_neg (by decide), f1]; simp only [f2]
    rw [← h1] at h2
    have hlo : loadS (sgB g.list) g.base = (g.list, (sgB g.list).length) := loadS_whole h2
    have ho : (false || (decide (0 < acc.length) && decide (g.base ≠ endS acc))) = false := by
      by_cases e : acc = []
      · subst e; rfl
      · simp only [Bool.false_or, Bool.and_eq_false_iff, decide_eq_false_iff_not]
        right
        rw [ha e, h1]
        simp
    rw [List.map_cons, List.cons_append, findF, hbn]
    simp only
    rw [hgb, ho, if_neg (by decide), hrd]
    simp only
    rw [if_neg (by simp), hlo]
    simp only
    rw [if_pos trivial]
    have ih := findF_snoc (pre := pre) hd s (acc ++ [g]) (endL n g.list) rest h3 (fun _ => by simp [endS, h1]) (fun x hx => hb x (by simp [hx])) (fun x hx => hf x (by simp [hx]))
    obtain ⟨gb, gl⟩ := g
    rw [ih]
    simp

/-- A tape whose last segment's file is torn. -/
theorem openS_torn {t : Tp} {pre : List UInt8} {size : Int} {m : List Sg} {g : Sg} {q : Nat} (hd : t.down = false) (ha : t.armed = 0) (hr : Row (m ++ [g])) (hn : (t.files.map (·.1)).Perm ((m ++ [g]).map (nmS pre)))
    (hm : ∀ x ∈ m, ∃ f, fget t.files (nmS pre x) = some f ∧ f.data = sgB x.list ∧ f.safe = f.data.length) (hg : ∃ f, fget t.files (nmS pre g) = some f ∧ f.data = (sgB g.list).take q ∧ f.safe = f.data.length) :
    ∃ t' j, openS t pre size = (t', some ⟨pre, size, m ++ [⟨g.base, g.list.take j⟩], t.life, false⟩, 0) ∧ j ≤ g.list.length ∧ (∀ i, i ≤ g.list.length → (sgB (g.list.take i)).length ≤ q → i ≤ j) ∧ t'.down = false ∧ t'.armed = 0 ∧ t'.life = t.life ∧ t'.room = t.room ∧
      Disk pre (m ++ [⟨g.base, g.list.take j⟩]) t'.files (allB (m ++ [⟨g.base, g.list.take j⟩])).length := by
  obtain ⟨n, hn0, hc⟩ := hr.chain
  have hcm := hc.left
  obtain ⟨c1, c2, -⟩ := hc.right
  rw [← c1] at c2
  have hlim := hr.lim g (by simp)
  obtain ⟨fg, g1, g2, g3⟩ := hg
  obtain ⟨j, j1, j2, j3, j4, j5⟩ := loadS_torn c2 q
  have hrj : Row (m ++ [⟨g.base, g.list.take j⟩]) := hr.short ⟨g.list.drop j, (List.take_append_drop j g.list).symm⟩
  have hbase : (false || (decide (0 < m.length) && decide (g.base ≠ endS m))) = false := by
    by_cases e : m = []
    · subst e; rfl
    · simp only [Bool.false_or, Bool.and_eq_false_iff, decide_eq_false_iff_not]
      right
      rw [endS_all hcm e, c1]
      simp
  have hbn : baseN pre (nmS pre g) = some g.base.toNat := baseN_file (by omega)
  have hgb : (g.base.toNat : Int) = g.base := by omega
  have hrd : readT t (nmS pre g) = ((sgB g.list).take q, 0) := by unfold readT; rw [hd, if_neg (by decide), g1]; simp only [g2]
  have hfr : fget t.files (freshN pre) = none := fget_not' (fun hm2 => by
    obtain ⟨y, hy, e⟩ := List.mem_map.1 (hn.mem_iff.1 hm2)
    have h2 := fileN_len (pre := pre) (n := y.base.toNat) (by have := hr.lim y hy; omega)
    rw [show fileN pre y.base.toNat = nmS pre y from rfl, e] at h2
    simp [freshN] at h2)
  have hdr : dropT t (freshN pre) = (t, 12) := by unfold dropT; rw [hd, if_neg (by decide), hfr]
  have hnv : namesV t = (m ++ [g]).map (nmS pre) := namesV_of hn (hr.names pre)
  have hsn := findF_snoc (pre := pre) hd m [] n [nmS pre g] hcm (fun h => absurd rfl h) (fun y hy => hr.lim y (by simp [hy])) (fun y hy => by obtain ⟨f, h1, h2, -⟩ := hm y hy; exact ⟨f, h1, h2⟩)
  rw [List.nil_append] at hsn
  have hlq : (sgB (g.list.take j)).length ≤ ((sgB g.list).take q).length := by
    have := loadS_le ((sgB g.list).take q) g.base
    rw [j2] at this
    exact this
  have hpre : sgB g.list = sgB (g.list.take j) ++ sgB (g.list.drop j) := by rw [← sgB_append, List.take_append_drop]
  have hT : ∀ (F : Fl → Fl) (l2 : List (List UInt8 × Fl)), l2 = updF t.files (nmS pre g) F → (F fg).data = sgB (g.list.take j) → (F fg).safe = (F fg).data.length →
      Disk pre (m ++ [⟨g.base, g.list.take j⟩]) l2 (allB (m ++ [⟨g.base, g.list.take j⟩])).length := by
    intro F l2 hl2 hF1 hF2
    have hne : ∀ x ∈ m, nmS pre x ≠ nmS pre g := by
      intro x hx e
      have := hr.names pre
      rw [List.map_append, List.pairwise_append] at this
      have := this.2.2 _ (List.mem_map_of_mem hx) (nmS pre g) (by simp)
      rw [e] at this
      exact List.lt_irrefl _ this
    have hgg : fget l2 (nmS pre ⟨g.base, g.list.take j⟩) = some (F fg) := by
      have e : nmS pre ⟨g.base, g.list.take j⟩ = nmS pre g := rfl
      rw [e, hl2, fget_upd, if_pos rfl, g1]
      rfl
    refine ⟨hrj, ⟨?_, ?_, ?_⟩, Nat.le_refl _, ?_⟩
    · rw [hl2, updF_names]
      rw [List.map_append] at hn ⊢
      exact hn
    · intro x hx
      rcases List.mem_append.1 hx with hx | hx
      · rw [hl2, fget_upd, if_neg (hne x hx)]
        obtain ⟨f, h1, h2, -⟩ := hm x hx
        exact ⟨f, h1, h2⟩
      · simp only [List.mem_singleton] at hx
        subst hx
        exact ⟨_, hgg, hF1⟩
    · intro x hx
      rw [List.dropLast_concat] at hx
      rw [hl2, fget_upd, if_neg (hne x hx)]
      obtain ⟨f, h1, -, h3⟩ := hm x hx
      exact ⟨f, h1, h3⟩
    · intro m' g' hs
      obtain ⟨rfl, rfl⟩ := snoc_inj hs
      refine ⟨_, (g.list.take j).length, hgg, Nat.le_refl _, by rw [allB_snoc, List.length_append]; exact Nat.le_refl _, ?_⟩
      rw [hF2, hF1, List.take_length]
      exact Nat.le_refl _
  unfold openS
  rw [hd, if_neg (by decide), hdr]
  simp only
  rw [if_neg (by decide)]
  by_cases hw : (sgB (g.list.take j)).length = ((sgB g.list).take q).length
  · -- whole
    have hff : findF pre ((m ++ [g]).map (nmS pre)) t [] false = (t, m ++ [⟨g.base, g.list.take j⟩], 0) := by
      rw [List.map_append, List.map_cons, List.map_nil, hsn, findF, hbn]
      simp only
      rw [hgb, hbase, if_neg (by decide), hrd]
      simp only
      rw [if_neg (by simp), j2]
      simp only
      rw [if_pos hw]
      rfl
    have hft : findT t ⟨pre, size, [], t.life, false⟩ = (t, ⟨pre, size, m ++ [⟨g.base, g.list.take j⟩], t.life, false⟩, 0) := by
      unfold findT
      rw [hnv]
      simp only
      rw [hff]
    rw [hft]
    simp only
    rw [if_pos trivial]
    refine ⟨t, j, rfl, j1, j5, hd, ha, rfl, rfl, hT id _ ?_ ?_ g3⟩
    · unfold updF
      simp
    · show fg.data = _
      rw [g2]
      have h1 : ((sgB g.list).take q).length ≤ q := by rw [List.length_take]; omega
      have h2 : (sgB g.list).take q = ((sgB g.list).take q).take (sgB (g.list.take j)).length := by rw [hw, List.take_length]
      rw [h2, List.take_take, Nat.min_eq_left (by omega)]
      conv => lhs; rw [hpre]
      simp
  · -- torn
    have hct : cutT t (nmS pre g) ((sgB (g.list.take j)).length : Int) = ({ t with files := updF t.files (nmS pre g) (cutF (sgB (g.list.take j)).length), acts := wrap64 (t.acts + 1) }, 0) := by
      unfold cutT
      rw [hd, if_neg (by decide), g1]
      simp only
      rw [if_neg (by rw [g2]; omega), actT_calm (by exact ha), Int.toNat_natCast]
    have hff : findF pre ((m ++ [g]).map (nmS pre)) t [] false = ({ t with files := updF t.files (nmS pre g) (cutF (sgB (g.list.take j)).length), acts := wrap64 (t.acts + 1) }, m ++ [⟨g.base, g.list.take j⟩], 0) := by
      rw [List.map_append, List.map_cons, List.map_nil, hsn, findF, hbn]
      simp only
      rw [hgb, hbase, if_neg (by decide), hrd]
      simp only
      rw [if_neg (by simp), j2]
      simp only
      rw [if_neg hw, hct]
      simp only
      rw [if_pos trivial]
      rfl
    have hft : findT t ⟨pre, size, [], t.life, false⟩ = ({ t with files := updF t.files (nmS pre g) (cutF (sgB (g.list.take j)).length), acts := wrap64 (t.acts + 1) }, ⟨pre, size, m ++ [⟨g.base, g.list.take j⟩], t.life, false⟩, 0) := by
      unfold findT
      rw [hnv]
      simp only
      rw [hff]
    rw [hft]
    simp only
    rw [if_pos trivial]
    have hfd : (cutF (sgB (g.list.take j)).length fg).data = sgB (g.list.take j) := by
      show fg.data.take _ = _
      rw [g2, List.take_take, Nat.min_eq_left (by rw [List.length_take] at hlq; omega)]
      conv => lhs; rw [hpre]
      simp
    refine ⟨_, j, rfl, j1, j5, hd, ha, rfl, rfl, hT (cutF (sgB (g.list.take j)).length) _ rfl hfd ?_⟩
    rw [hfd]
    show min fg.safe _ = _
    rw [g3, g2]
    omega

/-- The power goes, is back, it is opened: a beginning of what was given, all that was safe. -/
theorem loss_pw {t t2 : Tp} {pre : List UInt8} {size : Int} {s : List Sg} {k : Nat} (h : Disk pre s t.files k) (ha : t.down = true → t.armed = 0) (ho : OnAt (offT t) t2) :
    ∃ t3 s3 i, openS t2 pre size = (t3, some ⟨pre, size, s3, t2.life, false⟩, 0) ∧ allB s3 = (allB s).take i ∧ k ≤ (allB s3).length ∧ s3.length = s.length ∧ t3.room = t.room ∧ t3.armed = 0 ∧ Pw t3 ⟨pre, size, s3, t2.life, false⟩ (allB s3).length := by
  unfold OnAt at ho
  rw [offT_down, if_pos rfl] at ho
  obtain ⟨o1, o2, o3, o4, o5, o6⟩ := ho
  rw [offT_room] at o1
  rw [offT_armed ha] at o4
  rw [offT_files] at o6
  by_cases hs : s = []
  · subst hs
    have hf0 : t.files = [] := by
      have := h.tied.names.length_eq
      simpa using this
    rw [hf0] at o6
    have hf2 : t2.files = [] := by
      generalize t2.files = l2 at o6
      cases o6
      rfl
    have ht : Tied pre [] t2.files := by rw [hf2]; exact Tied.nil pre
    refine ⟨t2, [], 0, openS_full o2 ht Row.none, by simp [allB], h.safe.1, rfl, o1, o4, ⟨o2, rfl, rfl, ⟨Row.none, ht, Nat.le_refl _, fun m g hs => by simp at hs⟩⟩⟩
  · obtain ⟨m, g, rfl⟩ : ∃ m g, s = m ++ [g] := ⟨_, _, (List.dropLast_concat_getLast hs).symm⟩
    obtain ⟨f, j0, f1, f2, f3, f4⟩ := h.safe.2 m g rfl
    obtain ⟨f', e1, e2⟩ := h.tied.data g (by simp)
    rw [f1] at e1
    simp only [Option.some.injEq] at e1
    subst e1
    obtain ⟨fb, b1, c, b2, b3⟩ := all2_get o6 f1
    have hnm : (t2.files.map (·.1)).Perm ((m ++ [g]).map (nmS pre)) := by
      have : t2.files.map (·.1) = t.files.map (·.1) := by
        clear b1 b2 b3 f1 e2 f4 h
        generalize t2.files = l2 at o6
        generalize t.files = l at o6
        induction o6 with
        | nil => rfl
        | cons h1 _ ih => simp only [List.map_cons, ih, h1.1]
      rw [this]
      exact h.tied.names
    have hmm : ∀ x ∈ m, ∃ f, fget t2.files (nmS pre x) = some f ∧ f.data = sgB x.list ∧ f.safe = f.data.length := by
      intro x hx
      obtain ⟨fx, x1, x2⟩ := h.tied.data x (by simp [hx])
      obtain ⟨fy, y1, y2⟩ := h.tied.safe x (by simp [hx])
      rw [x1] at y1
      simp only [Option.some.injEq] at y1
      subst y1
      obtain ⟨fz, z1, z2⟩ := all2_get o6 x1
      have := kept_sure z2 y2
      subst this
      exact ⟨_, z1, x2, y2⟩
    obtain ⟨t3, j, r1, r2, r3, r4, r5, r6, r7, r8⟩ := openS_torn (size := size) (q := f.safe + c) o2 o4 h.row hnm hmm ⟨fb, b1, by rw [b3]; simp only [onF, e2], by rw [b3]; simp only [onF, List.length_take]; omega⟩
    have hj := r3 j0 f2 (by omega)
    refine ⟨t3, m ++ [⟨g.base, g.list.take j⟩], (allB m).length + j, r1, ?_, ?_, by simp, r7.trans o1, r5, ⟨r4, rfl, r6, r8⟩⟩
    · rw [allB_snoc, allB_snoc, List.take_length_add_append]
    · rw [allB_snoc, List.length_append]
      simp only [List.length_take]
      omega
end Go.Proofs.YtcpaaleogmiamaaGreatDoor
