/- Plain: what Cut does to a strand whose files are its segments, word by word. -/
import Derived.Test.YtcpaaleogmiamaaGreatDoorMp38
namespace Go.Proofs.YtcpaaleogmiamaaGreatDoor
open Go.RowKit

/-- Whether a batch stands across an offset. -/
def acrossB (s : List Sg) (off : Int) : Bool := match batF s off with
  | [] => false
  | b :: _ => decide (b.base < off)
/-- How many segments a Cut leaves. -/
def cutN (s : List Sg) (off : Int) : Nat := 1 + (s.tail.takeWhile (fun g => decide (g.base < off))).length
def headL (l : List Batch) (off : Int) : List Batch := l.takeWhile (fun b => decide (b.base < off))
/-- The last segment is cut. -/
def cutLS (t : Tp) (x : St) (off : Int) : Tp × St × Int := match x.segs.getLast? with
  | none => (t, x, 0)
  | some g => if (cutT t (fileS x g.base) (sgB (headL g.list off)).length).2 = 0
      then ((cutT t (fileS x g.base) (sgB (headL g.list off)).length).1, { x with segs := x.segs.set (x.segs.length - 1) ⟨g.base, headL g.list off⟩ }, 0)
      else ((cutT t (fileS x g.base) (sgB (headL g.list off)).length).1, stDid x (cutT t (fileS x g.base) (sgB (headL g.list off)).length).2, (cutT t (fileS x g.base) (sgB (headL g.list off)).length).2)
def cutS (t : Tp) (x : St) (off : Int) : Tp × St × Int :=
  if stReadyB t x = true then (t, x, 10)
  else if off < startS x.segs ∨ endS x.segs < off ∨ acrossB x.segs off = true then (t, x, 1)
  else if x.segs.length = 0 then (t, x, 0)
  else if (dropS t x (cutN x.segs off) (x.segs.length - cutN x.segs off)).2.2 = 0
    then cutLS (dropS t x (cutN x.segs off) (x.segs.length - cutN x.segs off)).1 (dropS t x (cutN x.segs off) (x.segs.length - cutN x.segs off)).2.1 off
    else dropS t x (cutN x.segs off) (x.segs.length - cutN x.segs off)

/-! ### A row of batches, cut at one's beginning -/
theorem chained_low : ∀ {l : List Batch} {n : Int}, Chained n l → ∀ b ∈ l, n ≤ b.base ∧ b.base + b.count ≤ endL n l
  | a :: l, n, h, b, hb => by
    obtain ⟨h1, h2, h3⟩ := h
    have G := ((goodB_iff a).1 h1).count
    have h4 := endL_ge h3
    simp only [endL]
    rcases List.mem_cons.1 hb with rfl | hb
    · omega
    · have := chained_low h3 b hb
      omega
theorem chained_ends : ∀ {l : List Batch} {n : Int} {off : Int} (k : Nat) (hk : k < l.length), Chained n l → l[k].base ≤ off → off < l[k].base + l[k].count → l.filter (fun b => decide (off < b.base + b.count)) = l.drop k
  | b :: l, n, off, 0, hk, h, h1, h2 => by
    obtain ⟨a1, a2, a3⟩ := h
    simp only [List.getElem_cons_zero] at h1 h2
    rw [List.filter_cons_of_pos (by simpa using h2), List.filter_eq_self.2, List.drop_zero]
    intro y hy
    have := chained_low a3 y hy
    have G := ((goodB_iff y).1 (a3.good y hy)).count
    simp only [decide_eq_true_eq]
    omega
  | b :: l, n, off, k + 1, hk, h, h1, h2 => by
    obtain ⟨a1, a2, a3⟩ := h
    simp only [List.getElem_cons_succ] at h1 h2
    have := chained_low a3 (l[k]'(by simpa using hk)) (List.getElem_mem _)
    rw [List.filter_cons_of_neg (by simp only [decide_eq_true_eq]; omega), List.drop_succ_cons]
    exact chained_ends k (by simpa using hk) a3 h1 h2
theorem chained_head : ∀ {l : List Batch} {n : Int} (k : Nat) (hk : k < l.length), Chained n l → headL l l[k].base = l.take k
  | b :: l, n, 0, hk, h => by simp [headL]
  | b :: l, n, k + 1, hk, h => by
    obtain ⟨a1, a2, a3⟩ := h
    have G := ((goodB_iff b).1 a1).count
    have := chained_low a3 (l[k]'(by simpa using hk)) (List.getElem_mem _)
    have ih := chained_head k (by simpa using hk) a3
    unfold headL at ih ⊢
    simp only [List.getElem_cons_succ, List.take_succ_cons]
    rw [List.takeWhile_cons_of_pos (by simp only [decide_eq_true_eq]; omega), ih]
theorem headL_pre (l : List Batch) (off : Int) : ∃ m, l = headL l off ++ m := ⟨l.dropWhile (fun b => decide (b.base < off)), List.takeWhile_append_dropWhile.symm⟩
theorem headL_low {l : List Batch} {off : Int} (h : ∀ b ∈ l, off ≤ b.base) : headL l off = [] := by
  cases l with
  | nil => rfl
  | cons b l =>
    have := h b (by simp)
    unfold headL
    rw [List.takeWhile_cons_of_neg (by simp only [decide_eq_true_eq]; omega)]
theorem headL_all {l m : List Batch} {off : Int} (h : ∀ b ∈ l, b.base < off) : headL (l ++ m) off = l ++ headL m off := by
  unfold headL
  rw [List.takeWhile_append_of_pos (fun b hb => by simpa using h b hb)]
theorem headL_none {m : List Batch} {off : Int} (h : ∀ b ∈ m, off ≤ b.base) : ∀ l : List Batch, headL (l ++ m) off = headL l off
  | [] => headL_low h
  | b :: l => by
    have ih := headL_none h l
    unfold headL at ih ⊢
    by_cases hb : b.base < off
    · rw [List.cons_append, List.takeWhile_cons_of_pos (by simpa using hb), List.takeWhile_cons_of_pos (by simpa using hb), ih]
    · rw [List.cons_append, List.takeWhile_cons_of_neg (by simpa using hb), List.takeWhile_cons_of_neg (by simpa using hb)]

/-! ### The segments that are left -/
def cutL (s : List Sg) (off : Int) : List Sg := match (s.take (cutN s off)).getLast? with
  | none => []
  | some g => (s.take (cutN s off)).set ((s.take (cutN s off)).length - 1) ⟨g.base, headL g.list off⟩
theorem cutN_le {s : List Sg} (off : Int) (h : s ≠ []) : cutN s off ≤ s.length := by
  cases s with
  | nil => exact absurd rfl h
  | cons g s =>
    have := (List.takeWhile_sublist (fun g : Sg => decide (g.base < off)) (l := s)).length_le
    simp only [cutN, List.tail_cons, List.length_cons]
    omega
theorem cutN_one {g g' : Sg} {s : List Sg} {off : Int} (h : off ≤ g'.base) : cutN (g :: g' :: s) off = 1 := by
  simp only [cutN, List.tail_cons]
  rw [List.takeWhile_cons_of_neg (by simp only [decide_eq_true_eq]; omega)]
  rfl
theorem cutN_more {g g' : Sg} {s : List Sg} {off : Int} (h : g'.base < off) : cutN (g :: g' :: s) off = 1 + cutN (g' :: s) off := by
  simp only [cutN, List.tail_cons]
  rw [List.takeWhile_cons_of_pos (by simpa using h)]
  simp only [List.length_cons]
  omega
theorem cutL_more {g g' : Sg} {s : List Sg} {off : Int} (h : g'.base < off) : cutL (g :: g' :: s) off = g :: cutL (g' :: s) off := by
  unfold cutL
  rw [cutN_more h, Nat.add_comm, List.take_succ_cons]
  have hp : 1 ≤ cutN (g' :: s) off := by unfold cutN; omega
  obtain ⟨q, hq⟩ : ∃ q, cutN (g' :: s) off = q + 1 := ⟨cutN (g' :: s) off - 1, by omega⟩
  rw [hq, List.take_succ_cons, List.getLast?_cons_cons]
  cases hl : (g' :: List.take q s).getLast? with
  | none => simp at hl
  | some y => simp
theorem cutL_one {g : Sg} {s : List Sg} {off : Int} (h : ∀ g', s.head? = some g' → off ≤ g'.base) : cutL (g :: s) off = [⟨g.base, headL g.list off⟩] := by
  have hn : cutN (g :: s) off = 1 := by
    cases s with
    | nil => rfl
    | cons g' s => exact cutN_one (h g' rfl)
  unfold cutL
  rw [hn]
  simp
theorem cutL_all : ∀ {s : List Sg} {n : Int}, ChainS n s → ∀ off, allB (cutL s off) = headL (allB s) off
  | [], _, _, off => rfl
  | [g], _, _, off => by rw [cutL_one (by simp)]; simp [allB]
  | g :: g' :: s, n, h, off => by
    obtain ⟨h1, h2, h3⟩ := h
    have hb : g'.base = endL n g.list := h3.1
    by_cases hlt : g'.base < off
    · rw [cutL_more hlt]
      have ih := cutL_all h3 off
      have e := headL_all (l := g.list) (m := allB (g' :: s)) (off := off) (fun b hb2 => by
        have := chained_low h2 b hb2
        have G := ((goodB_iff b).1 (h2.good b hb2)).count
        omega)
      have e1 : allB (g :: g' :: s) = g.list ++ allB (g' :: s) := rfl
      have e2 : allB (g :: cutL (g' :: s) off) = g.list ++ allB (cutL (g' :: s) off) := rfl
      rw [e1, e2, ih, e]
    · rw [cutL_one (fun y hy => by simp only [List.head?_cons, Option.some.injEq] at hy; subst hy; omega)]
      have := headL_none (off := off) (m := allB (g' :: s)) (fun b hb2 => by
        have := chained_low h3.chained b hb2
        omega) g.list
      simp only [allB, List.flatMap_cons, List.flatMap_nil, List.append_nil] at this ⊢
      exact this.symm

theorem ChainS.take {s : List Sg} {n : Int} (h : ChainS n s) (k : Nat) : ChainS n (s.take k) := by
  rw [← List.take_append_drop k s] at h
  exact h.left
theorem dropLast_take_mem {s : List Sg} {k : Nat} {g : Sg} (h : g ∈ (s.take k).dropLast) : g ∈ s.dropLast := by
  by_cases hk : k ≤ s.length
  · rw [List.dropLast_eq_take, List.length_take, Nat.min_eq_left hk, List.take_take] at h
    rw [List.dropLast_eq_take]
    exact (List.take_sublist_take_left (by omega)).subset h
  · rw [List.take_of_length_le (by omega)] at h
    exact h
theorem Row.take {s : List Sg} (h : Row s) (k : Nat) : Row (s.take k) := by
  obtain ⟨n, hn, hc⟩ := h.chain
  exact ⟨⟨n, hn, hc.take k⟩, fun g hg => h.full g (dropLast_take_mem hg), fun g hg => h.lim g (List.mem_of_mem_take hg)⟩
theorem Row.short {m : List Sg} {g : Sg} {l : List Batch} (h : Row (m ++ [g])) (hl : ∃ r, g.list = l ++ r) : Row (m ++ [⟨g.base, l⟩]) := by
  obtain ⟨n, hn, hc⟩ := h.chain
  obtain ⟨r, hr⟩ := hl
  have h1 := hc.left
  have h2 := hc.right
  obtain ⟨a1, a2, -⟩ := h2
  rw [hr] at a2
  refine ⟨⟨n, hn, h1.append ⟨a1, a2.left, trivial⟩⟩, ?_, ?_⟩
  · have := h.full
    rw [List.dropLast_concat] at this ⊢
    exact this
  · intro x hx
    rcases List.mem_append.1 hx with hx | hx
    · exact h.lim x (by simp [hx])
    · simp only [List.mem_singleton] at hx
      subst hx
      exact h.lim g (by simp)

/-! ### Files of some of the segments -/
structure Held (pre : List UInt8) (s : List Sg) (l : List (List UInt8 × Fl)) : Prop where
  names : (l.map (·.1)).Perm (s.map (nmS pre))
  rise : (s.map (nmS pre)).Pairwise (· < ·)
theorem eraseIdx_mid {α : Type} (m : List α) (g : α) (r : List α) : (m ++ g :: r).eraseIdx m.length = m ++ r := by
  rw [List.eraseIdx_append_of_length_le (Nat.le_refl _), Nat.sub_self, List.eraseIdx_cons_zero]
theorem Held.erase {pre : List UInt8} {m r : List Sg} {g : Sg} {l : List (List UInt8 × Fl)} (h : Held pre (m ++ g :: r) l) : Held pre (m ++ r) (l.eraseP (fun x => decide (x.1 = nmS pre g))) ∧ ∀ x ∈ m ++ r, fget (l.eraseP (fun x => decide (x.1 = nmS pre g))) (nmS pre x) = fget l (nmS pre x) := by
  have hr := h.rise
  rw [List.map_append, List.map_cons, List.pairwise_append, List.pairwise_cons] at hr
  obtain ⟨r1, ⟨r2, r3⟩, r4⟩ := hr
  have hne : ∀ x ∈ m ++ r, nmS pre g ≠ nmS pre x := by
    intro x hx e
    rcases List.mem_append.1 hx with hx | hx
    · have := r4 _ (List.mem_map_of_mem hx) (nmS pre g) (by simp)
      rw [e] at this
      exact List.lt_irrefl _ this
    · have := r2 _ (List.mem_map_of_mem hx)
      rw [e] at this
      exact List.lt_irrefl _ this
  refine ⟨⟨?_, ?_⟩, fun x hx => fget_erase _ _ (hne x hx) l⟩
  · rw [eraseP_names]
    have := h.names.erase (nmS pre g)
    rw [List.map_append, List.map_cons, List.erase_append_right _ (fun hm => by
      obtain ⟨x, hx, e⟩ := List.mem_map.1 hm
      exact hne x (by simp [hx]) e.symm), List.erase_cons_head] at this
    rw [List.map_append]
    exact this
  · rw [List.map_append, List.pairwise_append]
    exact ⟨r1, r3, fun a ha b hb => r4 a ha b (List.mem_cons_of_mem _ hb)⟩

theorem dropS_tail (m : List Sg) : ∀ (r : List Sg) (t : Tp) (x : St), x.segs = m ++ r → t.down = false → t.armed = 0 → Held x.pre x.segs t.files →
    ∃ t', dropS t x m.length r.length = (t', { x with segs := m }, 0) ∧ Calm t t' ∧ Held x.pre m t'.files ∧ ∀ g ∈ m, fget t'.files (nmS x.pre g) = fget t.files (nmS x.pre g)
  | [], t, x, hs, hd, ha, hh => by
    rw [List.append_nil] at hs
    refine ⟨t, ?_, Calm.refl t, by rw [← hs]; exact hh, fun _ _ => rfl⟩
    rw [List.length_nil, dropS, ← hs]
  | g :: r, t, x, hs, hd, ha, hh => by
    have hm : fileS x g.base ∈ t.files.map (·.1) := hh.names.mem_iff.2 (by rw [hs]; exact List.mem_map.2 ⟨g, by simp, rfl⟩)
    obtain ⟨f, hf⟩ := fget_some hm
    have hdr : dropT t (fileS x g.base) = ({ t with files := t.files.eraseP (fun x_1 => decide (x_1.1 = fileS x g.base)), acts := wrap64 (t.acts + 1) }, 0) := by
      unfold dropT
      rw [hd, if_neg (by decide), hf]
      simp only
      rw [actT_calm (by exact ha)]
    rw [hs] at hh
    obtain ⟨h1, h2⟩ := hh.erase
    rw [List.length_cons, dropS, hs, List.getElem?_append_right (Nat.le_refl _), Nat.sub_self]
    simp only [List.getElem?_cons_zero]
    rw [hdr]
    simp only
    rw [if_pos trivial, eraseIdx_mid]
    obtain ⟨t', q1, q2, q3, q4⟩ := dropS_tail m r { t with files := t.files.eraseP (fun x_1 => decide (x_1.1 = fileS x g.base)), acts := wrap64 (t.acts + 1) } { x with segs := m ++ r } rfl hd ha h1
    exact ⟨t', q1, ⟨q2.down, q2.armed, q2.life, q2.room⟩, q3, fun y hy => (q4 y hy).trans (h2 y (by simp [hy]))⟩

/-! ### Cut -/
theorem cutLS_full {t : Tp} {x : St} (h : Full t x) (off : Int) {m : List Sg} {g : Sg} (hs : x.segs = m ++ [g]) : ∃ t', cutLS t x off = (t', { x with segs := m ++ [⟨g.base, headL g.list off⟩] }, 0) ∧ Calm t t' ∧ Full t' { x with segs := m ++ [⟨g.base, headL g.list off⟩] } := by
  have hl : x.segs.getLast? = some g := by rw [hs]; simp
  have hfs : fileS x g.base = nmS x.pre g := rfl
  obtain ⟨f, hf, hfd⟩ := h.tied.data g (by rw [hs]; simp)
  obtain ⟨r, hr⟩ := headL_pre g.list off
  have hlen : (sgB g.list).length = (sgB (headL g.list off)).length + (sgB r).length := by conv => lhs; rw [hr, sgB_append, List.length_append]
  have hct : cutT t (nmS x.pre g) (sgB (headL g.list off)).length = ({ t with files := updF t.files (nmS x.pre g) (cutF (sgB (headL g.list off)).length), acts := wrap64 (t.acts + 1) }, 0) := by
    unfold cutT
    rw [h.live.down, if_neg (by decide), hf]
    simp only
    rw [if_neg (by rw [hfd]; omega), actT_calm (by exact h.live.armed), Int.toNat_natCast]
  have ht := h.tied
  have hrw := h.live.row
  rw [hs] at ht hrw
  have h2 := ht.last hrw (g' := ⟨g.base, headL g.list off⟩) rfl (F := cutF (sgB (headL g.list off)).length) (fun f hf => by
    show List.take _ f.data = _
    rw [hf]
    conv => lhs; rw [hr, sgB_append]
    simp [hr.symm])
  refine ⟨{ t with files := updF t.files (nmS x.pre g) (cutF (sgB (headL g.list off)).length), acts := wrap64 (t.acts + 1) }, ?_, ?_, ⟨⟨h.live.down, h.live.armed, h.live.dead, h.live.life, h2.names, hrw.short ⟨r, hr⟩⟩, h2⟩⟩
  · unfold cutLS
    rw [hl]
    simp only
    rw [hfs, hct]
    simp only
    rw [if_pos trivial, hs, set_last]
  · exact ⟨rfl, rfl, rfl, rfl⟩

theorem startS_chain {s : List Sg} {n : Int} (h : ChainS n s) (hs : s ≠ []) : startS s = n := by
  cases s with
  | nil => exact absurd rfl hs
  | cons g s => exact h.1
theorem cutS_full {t : Tp} {x : St} (h : Full t x) (k : Nat) (hk : k < (allB x.segs).length) :
    ∃ t' x', cutS t x (allB x.segs)[k].base = (t', x', 0) ∧ Calm t t' ∧ Full t' x' ∧ allB x'.segs = (allB x.segs).take k ∧ endS x'.segs = (allB x.segs)[k].base ∧ x'.pre = x.pre ∧ x'.size = x.size ∧ x'.segs.length ≤ x.segs.length ∧ x'.segs ≠ [] := by
  obtain ⟨off, hoff⟩ : ∃ off, (allB x.segs)[k].base = off := ⟨_, rfl⟩
  rw [hoff]
  have hne : x.segs ≠ [] := fun e => by rw [e] at hk; exact absurd hk (Nat.not_lt_zero _)
  obtain ⟨n, hn, hc⟩ := h.live.row.chain
  have hch := hc.chained
  have hlow := chained_low hch _ (List.getElem_mem hk)
  have G := ((goodB_iff _).1 (hch.good _ (List.getElem_mem hk))).count
  have hac : acrossB x.segs off = false := by
    unfold acrossB batF
    rw [chained_ends k hk hch (by omega) (by omega), List.drop_eq_getElem_cons hk]
    simp only [decide_eq_false_iff_not]
    omega
  have h1 : startS x.segs ≤ off := by rw [startS_chain hc hne]; omega
  have h2 : off ≤ endS x.segs := by rw [endS_all hc hne]; omega
  have hcn := cutN_le off hne
  have hsplit := List.take_append_drop (cutN x.segs off) x.segs
  have hlt : (x.segs.take (cutN x.segs off)).length = cutN x.segs off := by rw [List.length_take, Nat.min_eq_left hcn]
  have hld : (x.segs.drop (cutN x.segs off)).length = x.segs.length - cutN x.segs off := List.length_drop
  obtain ⟨t1, d1, d2, d3, d4⟩ := dropS_tail (x.segs.take (cutN x.segs off)) (x.segs.drop (cutN x.segs off)) t x hsplit.symm h.live.down h.live.armed ⟨h.live.names, h.live.row.names x.pre⟩
  rw [hlt, hld] at d1
  have hcp : 1 ≤ cutN x.segs off := by unfold cutN; omega
  have htn : x.segs.take (cutN x.segs off) ≠ [] := fun e => by rw [e] at hlt; simp at hlt; omega
  obtain ⟨m, g, hmg⟩ : ∃ m g, x.segs.take (cutN x.segs off) = m ++ [g] := ⟨_, _, (List.dropLast_concat_getLast htn).symm⟩
  have hF : Full t1 { x with segs := x.segs.take (cutN x.segs off) } := by
    have hr := h.live.row.take (cutN x.segs off)
    refine ⟨⟨d2.down.trans h.live.down, d2.armed.trans h.live.armed, h.live.dead, d2.life.trans h.live.life, d3.names, hr⟩, ⟨d3.names, fun y hy => ?_, fun y hy => ?_⟩⟩
    · rw [d4 y hy]
      exact h.tied.data y (List.mem_of_mem_take hy)
    · rw [d4 y ((List.dropLast_sublist _).subset hy)]
      exact h.tied.safe y (dropLast_take_mem hy)
  obtain ⟨t2, c1, c2, c3⟩ := cutLS_full hF off hmg
  have hcl : cutL x.segs off = m ++ [⟨g.base, headL g.list off⟩] := by
    unfold cutL
    rw [hmg]
    simp
  have hal := cutL_all hc off
  have hh := chained_head k hk hch
  rw [hoff] at hh
  rw [hh, hcl] at hal
  refine ⟨t2, _, ?_, d2.trans c2, c3, hal, ?_, rfl, rfl, ?_, by simp⟩
  · unfold cutS
    rw [h.live.ready, if_neg (by decide), if_neg (by rw [hac]; simp; omega), if_neg (by simpa using hne), d1]
    simp only
    rw [if_pos trivial, c1]
  · -- where it ends
    obtain ⟨n2, hn2, hc2⟩ := c3.live.row.chain
    rw [endS_all hc2 (by simp)]
    have e2 := startS_chain hc2 (by simp)
    have e1 := startS_chain hc hne
    have hst : startS (m ++ [⟨g.base, headL g.list off⟩]) = startS x.segs := by
      have hx : startS x.segs = startS (m ++ [g]) := by
        rw [← hmg]
        cases hx : x.segs with
        | nil => exact absurd hx hne
        | cons y s =>
          obtain ⟨q, hq⟩ : ∃ q, cutN x.segs off = q + 1 := ⟨cutN x.segs off - 1, by omega⟩
          rw [hx] at hq
          rw [hq]
          rfl
      rw [hx]
      cases m with
      | nil => rfl
      | cons y m => rfl
    have hnn : n2 = n := by rw [← e2, hst, e1]
    show endL n2 (allB _) = off
    rw [hal, hnn]
    have hcc := hch
    rw [← List.take_append_drop k (allB x.segs), List.drop_eq_getElem_cons hk] at hcc
    have := hcc.right.2.1
    rw [← this]
    exact hoff
  · have : (m ++ [(⟨g.base, headL g.list off⟩ : Sg)]).length = (x.segs.take (cutN x.segs off)).length := by rw [hmg]; simp
    simp only
    rw [this, hlt]
    exact hcn

/-- Off within a batch: refused. -/
theorem cutS_across {t : Tp} {x : St} (h : Full t x) (k : Nat) (hk : k < (allB x.segs).length) (h1 : 1 < (allB x.segs)[k].count) : cutS t x ((allB x.segs)[k].base + 1) = (t, x, 1) := by
  obtain ⟨n, hn, hc⟩ := h.live.row.chain
  have hac : acrossB x.segs ((allB x.segs)[k].base + 1) = true := by
    unfold acrossB batF
    rw [chained_ends k hk hc.chained (by omega) (by omega), List.drop_eq_getElem_cons hk]
    simp only [decide_eq_true_eq]
    omega
  unfold cutS
  rw [h.live.ready, if_neg (by decide), if_pos (by rw [hac]; simp)]

/-! ### Room -/
theorem fget_sum {pre : List UInt8} {s : List Sg} {l : List (List UInt8 × Fl)} (h : Tied pre s l) (hr : Row s) : dataSum l = (s.map (fun g => (sgB g.list).length)).sum := by
  have hnd : (l.map (·.1)).Nodup := h.names.nodup_iff.2 ((hr.names pre).imp (fun {a b} hlt e => by subst e; exact List.lt_irrefl _ hlt))
  have e1 : l.map (fun y => y.2.data.length) = (l.map (·.1)).map (fun n => ((fget l n).map (fun f => f.data.length)).getD 0) := by
    rw [List.map_map]
    refine List.map_congr_left (fun y hy => ?_)
    simp only [Function.comp_apply, fget_nodup hnd hy, Option.map_some, Option.getD_some]
  have e2 : (s.map (nmS pre)).map (fun n => ((fget l n).map (fun f => f.data.length)).getD 0) = s.map (fun g => (sgB g.list).length) := by
    rw [List.map_map]
    refine List.map_congr_left (fun g hg => ?_)
    obtain ⟨f, f1, f2⟩ := h.data g hg
    simp only [Function.comp_apply, f1, Option.map_some, Option.getD_some, f2]
  unfold dataSum
  rw [← e2, ← (h.names.map _).sum_nat, ← e1]
theorem sgB_sum {s : List Sg} (h : ∀ b ∈ allB s, goodB b = true) : (s.map (fun g => (sgB g.list).length)).sum ≤ 2008 * (allB s).length := by
  induction s with
  | nil => simp
  | cons g s ih =>
    have h1 := sgB_le (l := g.list) (fun b hb => h b (by simp [allB, hb]))
    have ih := ih (fun b hb => h b (by simp only [allB, List.flatMap_cons, List.mem_append]; exact .inr hb))
    simp only [List.map_cons, List.sum_cons, allB, List.flatMap_cons, List.length_append] at ih ⊢
    omega

/-- A good batch at the end is taken when there is room. -/
theorem appS_ok {t : Tp} {x : St} {b : Batch} (h : Full t x) (hp : x.pre.length ≤ 16) (hg : goodB b = true) (he : b.base = endS x.segs) (hroom : 2008 * ((allB x.segs).length + 1) ≤ t.room) (hl : x.segs.length < 256) : (appS t x b).2.2 = 0 := by
  obtain ⟨n, hn, hc⟩ := h.live.row.chain
  have hsum : dataSum t.files ≤ 2008 * (allB x.segs).length := by
    rw [fget_sum h.tied h.live.row]
    exact sgB_sum hc.chained.good
  have hfl : (frameB (encB b)).length ≤ 2008 := (frB_len hg).1
  have G := ((goodB_iff b).1 hg).base
  have hok : ∀ (t1 : Tp) (nm : List UInt8), t1.down = false → t1.armed = 0 → t1.room = t.room → t1.files.map (·.1) = t.files.map (·.1) → dataSum t1.files = dataSum t.files → isNameB nm = true → (appT t1 nm (frameB (encB b))).2 = 0 := by
    intro t1 nm h1 h2 h3 h4 h5 h6
    unfold appT
    rw [h1, if_neg (by decide), if_pos h6]
    have hlen : t1.files.length = x.segs.length := by
      have e := congrArg List.length h4
      have e2 := h.live.names.length_eq
      simp only [List.length_map] at e e2
      omega
    split
    · rw [if_neg (by rw [h5, h3]; omega), actT_calm (by exact h2)]
    · rw [if_neg (by rw [h5, h3]; omega), actT_calm (by exact h2)]
  have hfull : (fullS t x b).2.2 = 0 := by
    obtain ⟨t1, s1, s2, s3, s4, s5⟩ := syncS_full h
    have hsum1 : dataSum t1.files = dataSum t.files := by rw [fget_sum s4 h.live.row, fget_sum h.tied h.live.row]
    have := hok t1 (fileS x b.base) (s2.down.trans h.live.down) (s2.armed.trans h.live.armed) s2.room s3 hsum1 (name_good hp (by omega))
    unfold fullS
    rw [s1]
    simp only
    rw [if_neg (by simp)]
    exact this
  unfold appS
  rw [h.live.ready, if_neg (by decide), if_neg (by rw [hg]; decide), if_neg (by simpa using he)]
  split
  · rename_i g hgl
    split
    · have hb := h.live.row.lim g (List.mem_of_getLast? hgl)
      have := hok t (fileS x g.base) h.live.down h.live.armed rfl rfl rfl (name_good hp (by omega))
      exact this
    · exact hfull
  · exact hfull
end Go.Proofs.YtcpaaleogmiamaaGreatDoor
