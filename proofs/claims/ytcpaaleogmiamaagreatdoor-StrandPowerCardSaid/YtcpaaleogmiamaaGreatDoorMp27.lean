/- A segment more in a strand that lies apart from its tape; finding segments, in plain words. -/
/- A tape that holds a strand's segments, in plain words; what is found on it. -/
import Derived.Test.YtcpaaleogmiamaaGreatDoorMp22
import Derived.Test.YtcpaaleogmiamaaGreatDoorMp15
import Derived.Test.YtcpaaleogmiamaaGreatDoorMp26
import Derived.Test.YtcpaaleogmiamaaGreatDoorMp24
namespace Go.Proofs.YtcpaaleogmiamaaGreatDoor
open Go.RowKit

theorem Sd.push {w0 w : World} {S D1 : Nat → Prop} {sb b mb : Nat} {L : TpL} {x : St} {t : Tp} {gv : Value} {m : List (Value × Sg)} {D : Nat → Prop} (h : Sd w0 w S sb b mb L x t) (hi : StIn w S sb b x gv m D)
    {ob : Obj} {W2 : World} {g cap : Nat} {lv' : Value} {b0 : Int} {l' : List Batch} (ho : W2.ownsRow 0 158 3 (.slice (some ⟨g, 0, none⟩) (m.length + 1) cap) (m.length + 1) (sgCells m ++ [.int .i64 b0, lv', .int .i64 ((sgB l').length : Int)]))
    (hg : (w.alloc ob).grownBy W2 gv.ownBlock) (hat : gv.ownBlock = some g ∨ g = (w.alloc ob).heap.size) (hl : BsIn w D1 lv' l') (hD1 : ∀ c, D1 c → c < w.heap.size ∧ ¬ S c ∧ ¬ TpF b mb L c ∧ w0.heap.size ≤ c) (hok : 0 ≤ b0 ∧ b0 ≤ 1099511627776 ∧ Chained b0 l') :
    W2.heap[sb]? = w.heap[sb]? ∧ Sd w0 (W2.setCell ⟨sb, 3, none⟩ (.slice (some ⟨g, 0, none⟩) (m.length + 1) cap)) (fun c => S c ∨ D1 c ∨ c = g) sb b mb L { x with segs := x.segs ++ [⟨b0, l'⟩] } t ∧
      StIn (W2.setCell ⟨sb, 3, none⟩ (.slice (some ⟨g, 0, none⟩) (m.length + 1) cap)) (fun c => S c ∨ D1 c ∨ c = g) sb b { x with segs := x.segs ++ [⟨b0, l'⟩] } (.slice (some ⟨g, 0, none⟩) (m.length + 1) cap) (m ++ [(lv', ⟨b0, l'⟩)]) (fun c => D c ∨ D1 c) ∧
      Upd S w (W2.setCell ⟨sb, 3, none⟩ (.slice (some ⟨g, 0, none⟩) (m.length + 1) cap)) ∧ (g < w.heap.size → S g) := by
  obtain ⟨p1, p2, p3, p4⟩ := hi.push ho hg hat hl (fun c hc => ⟨(hD1 c hc).1, fun e => (hD1 c hc).2.1 (by rw [e]; exact hi.own), fun e => (hD1 c hc).2.1 (hi.ownG c e)⟩)
  have hgw : S g ∨ w.heap.size ≤ g := by
    by_cases hlt : g < w.heap.size
    · exact .inl (p4 hlt)
    · exact .inr (by omega)
  refine ⟨p1, ⟨⟨_, _, _, p2⟩, h.tp.upd p3 (fun k hk hs => h.apart k hk hs), ?_, ?_, h.names, h.base.trans (p3.toBelow h.base.size h.aboveS), ?_, h.aboveT⟩, p2, p3, p4⟩
  · rintro k hk (hs | hd | rfl)
    · exact h.apart k hk hs
    · exact (hD1 k hd).2.2.1 hk
    · rcases hgw with hs | hge
      · exact h.apart k hk hs
      · have := h.tp.fLt k hk; omega
  · refine ⟨h.ok.pre, h.ok.size, fun s hs => ?_⟩
    rcases List.mem_append.1 hs with hs | hs
    · exact h.ok.segs s hs
    · simp only [List.mem_singleton] at hs
      subst hs
      exact hok
  · rintro k (hs | hd | rfl)
    · exact h.aboveS k hs
    · exact (hD1 k hd).2.2.2
    · rcases hgw with hs | hge
      · exact h.aboveS k hs
      · exact Nat.le_trans h.base.size hge

theorem sd_since {w w5 w' : World} {S S5 : Nat → Prop} {b mb : Nat} {L L5 : TpL} (hu : Upd (SdF S b mb L) w w5) (hS : ∀ k, S5 k → S k ∨ w.heap.size ≤ k) (hL : ∀ k ∈ tpBlocks L5, k ∈ tpBlocks L ∨ w.heap.size ≤ k)
    (h3 : Upd (SdF S5 b mb L5) w5 w') : Upd (SdF S b mb L) w w' := by
  have h3' : Upd (fun k => SdF S b mb L k ∨ w.heap.size ≤ k) w5 w' := h3.mono (fun k _ hk => hk.elim (fun hs => (hS k hs).elim (fun h => .inl (.inl h)) .inr) (fun ht => (TpF.new hL k ht).elim (fun h => .inl (.inr h)) .inr))
  have h6 := (hu.mono (fun k _ hk => Or.inl hk) : Upd (fun k => SdF S b mb L k ∨ w.heap.size ≤ k) w w5).trans h3'
  exact h6.mono (fun k hk h => h.elim id (fun h => by omega))

theorem loadF_le : ∀ (f : Nat) (s : List UInt8) (k : Nat) (n : Int) (acc : List Batch), k ≤ s.length → (loadF f s k n acc).2 ≤ s.length
  | 0, _, _, _, _, hk => hk
  | f + 1, s, k, n, acc, hk => by
    rw [loadF]
    split
    · exact hk
    · rename_i hc
      split
      · exact hk
      · rename_i b hb
        split
        · exact hk
        · obtain ⟨y, m, c, hx⟩ : ∃ y m c, nextV s k = (y, m, c) := ⟨_, _, _, rfl⟩
          rw [hx] at hb hc ⊢
          simp only at hb hc ⊢
          have hc0 : c = 0 := Classical.byContradiction hc
          subst hc0
          exact loadF_le f s m _ _ (nextV_lt hx).2.1
theorem loadS_le (s : List UInt8) (n : Int) : (sgB (loadS s n).1).length ≤ s.length := by
  rw [← (loadS_ok s n).2]
  exact loadF_le _ s 0 n [] (Nat.zero_le _)

/-! ### What is found -/
def readT (t : Tp) (n : List UInt8) : List UInt8 × Int := if t.down = true then ([], 10) else match fget t.files n with | some f => (f.data, 0) | none => ([], 12)
theorem readV_readT {w : World} {b mb : Nat} {L : TpL} {t : Tp} (h : TpAt w b mb L t) (n : List UInt8) : readV L t n = .tuple #[.string (bs (readT t n).1), .int .i64 (readT t n).2] := by
  unfold readV readT
  rw [h.eq, fget_tp]
  split
  · rfl
  · cases flGet L n <;> rfl
theorem readT_len {t : Tp} (h : TpOk t) (n : List UInt8) : (readT t n).1.length ≤ 4194304 := by
  unfold readT
  split
  · simp
  · split
    · rename_i f hf
      unfold fget at hf
      rw [Option.map_eq_some_iff] at hf
      obtain ⟨z, hz, e⟩ := hf
      have h3 : z.2.data.length ≤ dataSum t.files := le_sum (List.mem_map.2 ⟨z, List.mem_of_find?_eq_some hz, rfl⟩)
      have h1 := h.sum
      have h2 := h.room.2
      simp only
      rw [← e]
      omega
    · simp

def findF (pre : List UInt8) : List (List UInt8) → Tp → List Sg → Bool → Tp × List Sg × Int
  | [], t, s, _ => (t, s, 0)
  | n :: l, t, s, o => match baseN pre n with
    | none => findF pre l t s o
    | some k =>
      if (o || (decide (0 < s.length) && decide ((k : Int) ≠ endS s))) = true then
        (if (dropT t n).2 = 0 then findF pre l (dropT t n).1 s true else ((dropT t n).1, s, (dropT t n).2))
      else if (readT t n).2 ≠ 0 then (t, s, (readT t n).2)
      else if (sgB (loadS (readT t n).1 k).1).length = (readT t n).1.length then findF pre l t (s ++ [⟨k, (loadS (readT t n).1 k).1⟩]) false
      else if (cutT t n ((sgB (loadS (readT t n).1 k).1).length : Int)).2 = 0 then findF pre l (cutT t n ((sgB (loadS (readT t n).1 k).1).length : Int)).1 (s ++ [⟨k, (loadS (readT t n).1 k).1⟩]) true
      else ((cutT t n ((sgB (loadS (readT t n).1 k).1).length : Int)).1, s ++ [⟨k, (loadS (readT t n).1 k).1⟩], (cutT t n ((sgB (loadS (readT t n).1 k).1).length : Int)).2)
end Go.Proofs.YtcpaaleogmiamaaGreatDoor
namespace Go.Proofs.YtcpaaleogmiamaaGreatDoor
open Go.RowKit

def nmS (pre : List UInt8) (g : Sg) : List UInt8 := fileN pre g.base.toNat

theorem fget_add {l : List (List UInt8 × Fl)} {n m : List UInt8} {f : Fl} (h : n ∉ l.map (·.1)) : fget (l ++ [(n, f)]) m = if m = n then some f else fget l m := by
  unfold fget
  rw [List.find?_append]
  by_cases e : m = n
  · subst e
    rw [if_pos rfl]
    have : l.find? (fun x => decide (x.1 = m)) = none := List.find?_eq_none.2 (fun x hx => by
      simp only [decide_eq_true_eq]
      exact fun e => h (List.mem_map.2 ⟨x, hx, e⟩))
    simp [this]
  · rw [if_neg e]
    have : ([(n, f)] : List (List UInt8 × Fl)).find? (fun x => decide (x.1 = m)) = none := by simp; exact fun e2 => e e2.symm
    rw [this, Option.or_none]
theorem fget_upd (l : List (List UInt8 × Fl)) (n m : List UInt8) (F : Fl → Fl) : fget (updF l n F) m = if m = n then (fget l m).map F else fget l m := by
  induction l with
  | nil => simp [fget, updF]
  | cons x l ih =>
    simp only [updF] at ih
    simp only [fget, updF, List.map_cons] at ih ⊢
    by_cases e : x.1 = n
    · rw [if_pos e]
      by_cases e2 : x.1 = m
      · have e3 : m = n := by rw [← e2, e]
        simp [List.find?_cons, e2, e3]
      · have e3 : ¬ m = n := fun h => e2 (by rw [e, h])
        rw [if_neg e3] at ih ⊢
        simp only [List.find?_cons, e2, decide_false]
        exact ih
    · rw [if_neg e]
      by_cases e2 : x.1 = m
      · have e3 : ¬ m = n := fun h => e (by rw [e2, h])
        simp [List.find?_cons, e2, e3]
      · simp only [List.find?_cons, e2, decide_false]
        exact ih
theorem fget_some {l : List (List UInt8 × Fl)} {n : List UInt8} (h : n ∈ l.map (·.1)) : ∃ f, fget l n = some f := by
  obtain ⟨x, hx, e⟩ := List.mem_map.1 h
  unfold fget
  cases hf : l.find? (fun x => decide (x.1 = n)) with
  | some y => exact ⟨y.2, rfl⟩
  | none =>
    have := List.find?_eq_none.1 hf x hx
    simp [e] at this
theorem fget_in {l : List (List UInt8 × Fl)} {n : List UInt8} {f : Fl} (h : fget l n = some f) : (n, f) ∈ l := by
  unfold fget at h
  rw [Option.map_eq_some_iff] at h
  obtain ⟨z, hz, rfl⟩ := h
  have h1 := List.mem_of_find?_eq_some hz
  have h2 := List.find?_some hz
  simp only [decide_eq_true_eq] at h2
  rw [← h2]
  exact h1

/-! ### Files of segments -/
/-- Segments in order, none but the last empty. -/
structure Row (s : List Sg) : Prop where
  chain : ∃ n : Int, 0 ≤ n ∧ ChainS n s
  full : ∀ g ∈ s.dropLast, g.list ≠ []
  lim : ∀ g ∈ s, 0 ≤ g.base ∧ g.base ≤ 1099511627776
theorem endL_lt {n : Int} {l : List Batch} (h : Chained n l) (hl : l ≠ []) : n < endL n l := by
  cases l with
  | nil => exact absurd rfl hl
  | cons b l =>
    obtain ⟨h1, h2, h3⟩ := h
    have G := ((goodB_iff b).1 h1).count
    have := endL_ge h3
    simp only [endL]
    omega
theorem chainS_low : ∀ {s : List Sg} {n : Int}, ChainS n s → ∀ g ∈ s, n ≤ g.base
  | g :: s, n, h, x, hx => by
    obtain ⟨h1, h2, h3⟩ := h
    rcases List.mem_cons.1 hx with rfl | hx
    · omega
    · have := chainS_low h3 x hx
      have := endL_ge h2
      omega
theorem chainS_rise : ∀ {s : List Sg} {n : Int}, ChainS n s → (∀ g ∈ s.dropLast, g.list ≠ []) → s.Pairwise (fun a b => a.base < b.base)
  | [], _, _, _ => List.Pairwise.nil
  | [g], _, _, _ => by simp
  | g :: g' :: s, n, h, hf => by
    obtain ⟨h1, h2, h3⟩ := h
    refine List.Pairwise.cons (fun x hx => ?_) (chainS_rise h3 (fun y hy => hf y (by simp [hy])))
    have := chainS_low h3 x hx
    have := endL_lt h2 (hf g (by simp))
    omega
theorem Row.rise {s : List Sg} (h : Row s) : s.Pairwise (fun a b => a.base < b.base) := by
  obtain ⟨n, -, hc⟩ := h.chain
  exact chainS_rise hc h.full
theorem Row.names {s : List Sg} (h : Row s) (pre : List UInt8) : (s.map (nmS pre)).Pairwise (· < ·) := by
  rw [List.pairwise_map]
  refine h.rise.imp_of_mem (fun {a b} ha hb hlt => ?_)
  have h1 := h.lim a ha
  have h2 := h.lim b hb
  exact fileN_lt (by omega) (by omega)

/-- The files of a tape are the segments', all but the last are safe. -/
structure Tied (pre : List UInt8) (s : List Sg) (l : List (List UInt8 × Fl)) : Prop where
  names : (l.map (·.1)).Perm (s.map (nmS pre))
  data : ∀ g ∈ s, ∃ f, fget l (nmS pre g) = some f ∧ f.data = sgB g.list
  safe : ∀ g ∈ s.dropLast, ∃ f, fget l (nmS pre g) = some f ∧ f.safe = f.data.length
theorem Tied.nil (pre : List UInt8) : Tied pre [] [] := ⟨List.Perm.refl _, by simp, by simp⟩

theorem namesV_of {t : Tp} {ks : List (List UInt8)} (h : (t.files.map (·.1)).Perm ks) (hs : ks.Pairwise (· < ·)) : namesV t = ks := by
  unfold namesV
  have h1 := List.mergeSort_perm (t.files.map (·.1)) (fun x y => decide (x ≤ y))
  have tr : ∀ a b c : List UInt8, decide (a ≤ b) = true → decide (b ≤ c) = true → decide (a ≤ c) = true := fun a b c h1 h2 => by simp only [decide_eq_true_eq] at *; exact List.le_trans h1 h2
  have tot : ∀ a b : List UInt8, (decide (a ≤ b) || decide (b ≤ a)) = true := fun a b => by simp only [Bool.or_eq_true, decide_eq_true_eq]; exact List.le_total a b
  refine List.Perm.eq_of_pairwise (le := fun a b => decide (a ≤ b) = true) (fun a b _ _ h1 h2 => ?_) (List.pairwise_mergeSort tr tot _) (hs.imp (fun h => by simpa using List.le_of_lt h)) (h1.trans h)
  simp only [decide_eq_true_eq] at h1 h2
  exact List.le_antisymm h1 h2
theorem Tied.namesV {pre : List UInt8} {s : List Sg} {t : Tp} (h : Tied pre s t.files) (hr : Row s) : namesV t = s.map (nmS pre) := namesV_of h.names (hr.names pre)

/-- The last segment is another one. -/
theorem Tied.last {pre : List UInt8} {m : List Sg} {g g' : Sg} {l : List (List UInt8 × Fl)} (h : Tied pre (m ++ [g]) l) (hr : Row (m ++ [g])) (hb : g'.base = g.base) {F : Fl → Fl} (hF : ∀ f, f.data = sgB g.list → (F f).data = sgB g'.list) : Tied pre (m ++ [g']) (updF l (nmS pre g) F) := by
  have hn : nmS pre g' = nmS pre g := by unfold nmS; rw [hb]
  have hne : ∀ x ∈ m, nmS pre x ≠ nmS pre g := by
    intro x hx e
    have := hr.names pre
    rw [List.map_append, List.pairwise_append] at this
    have := this.2.2 _ (List.mem_map_of_mem hx) (nmS pre g) (by simp)
    rw [e] at this
    exact List.lt_irrefl _ this
  refine ⟨?_, ?_, ?_⟩
  · rw [updF_names, List.map_append, List.map_cons, List.map_nil, hn]
    have := h.names
    rw [List.map_append, List.map_cons, List.map_nil] at this
    exact this
  · intro x hx
    rw [fget_upd]
    rcases List.mem_append.1 hx with hx | hx
    · rw [if_neg (hne x hx)]
      exact h.data x (by simp [hx])
    · simp only [List.mem_singleton] at hx
      subst hx
      obtain ⟨f, h1, h2⟩ := h.data g (by simp)
      rw [hn, if_pos rfl, h1]
      exact ⟨F f, rfl, hF f h2⟩
  · intro x hx
    have hx : x ∈ m := by simpa using hx
    rw [fget_upd, if_neg (hne x hx)]
    exact h.safe x (by simp [hx])
/-- The last one is safe. -/
theorem Tied.sure {pre : List UInt8} {m : List Sg} {g : Sg} {l : List (List UInt8 × Fl)} (h : Tied pre (m ++ [g]) l) (hr : Row (m ++ [g])) : Tied pre (m ++ [g]) (updF l (nmS pre g) syncF) ∧ ∀ x ∈ m ++ [g], ∃ f, fget (updF l (nmS pre g) syncF) (nmS pre x) = some f ∧ f.safe = f.data.length := by
  have h1 := h.last hr (g' := g) rfl (F := syncF) (fun f hf => hf)
  refine ⟨h1, fun x hx => ?_⟩
  rcases List.mem_append.1 hx with hx | hx
  · exact h1.safe x (by simp [hx])
  · simp only [List.mem_singleton] at hx
    subst hx
    obtain ⟨f, h2, h3⟩ := h.data x (by simp)
    rw [fget_upd, if_pos rfl, h2]
    exact ⟨syncF f, rfl, rfl⟩
/-- A segment more. -/
theorem Tied.add {pre : List UInt8} {s : List Sg} {g : Sg} {l : List (List UInt8 × Fl)} {k : Nat} (h : Tied pre s l) (hr : Row (s ++ [g])) (hs : ∀ x ∈ s, ∃ f, fget l (nmS pre x) = some f ∧ f.safe = f.data.length) : Tied pre (s ++ [g]) (l ++ [(nmS pre g, ⟨sgB g.list, k⟩)]) := by
  have hne : ∀ x ∈ s, nmS pre x ≠ nmS pre g := by
    intro x hx e
    have := hr.names pre
    rw [List.map_append, List.pairwise_append] at this
    have := this.2.2 _ (List.mem_map_of_mem hx) (nmS pre g) (by simp)
    rw [e] at this
    exact List.lt_irrefl _ this
  have hnot : nmS pre g ∉ l.map (·.1) := fun hm => by
    obtain ⟨x, hx, e⟩ := List.mem_map.1 (h.names.mem_iff.1 hm)
    exact hne x hx e
  refine ⟨?_, ?_, ?_⟩
  · rw [List.map_append, List.map_append]
    exact h.names.append_right _
  · intro x hx
    rw [fget_add hnot]
    rcases List.mem_append.1 hx with hx | hx
    · rw [if_neg (hne x hx)]
      exact h.data x hx
    · simp only [List.mem_singleton] at hx
      subst hx
      rw [if_pos rfl]
      exact ⟨_, rfl, rfl⟩
  · intro x hx
    have hx : x ∈ s := by simpa using hx
    rw [fget_add hnot, if_neg (hne x hx)]
    exact hs x hx

/-! ### Finding them -/
theorem findF_whole {pre : List UInt8} {t : Tp} (hd : t.down = false) : ∀ (s acc : List Sg) (n : Int), ChainS n s → (acc ≠ [] → endS acc = n) → (∀ g ∈ s, 0 ≤ g.base ∧ g.base ≤ 1099511627776) → (∀ g ∈ s, ∃ f, fget t.files (nmS pre g) = some f ∧ f.data = sgB g.list) →
    (∀ g ∈ s.dropLast, g.list ≠ []) → findF pre (s.map (nmS pre)) t acc false = (t, acc ++ s, 0)
  | [], acc, _, _, _, _, _, _ => by simp [findF]
  | g :: s, acc, n, hc, ha, hb, hf, hl => by
    obtain ⟨h1, h2, h3⟩ := hc
    obtain ⟨b1, b2⟩ := hb g (by simp)
    obtain ⟨f, f1, f2⟩ := hf g (by simp)
    have hbn : baseN pre (nmS pre g) = some g.base.toNat := baseN_file (by omega)
    have hgb : (g.base.toNat : Int) = g.base := by omega
    have hrd : readT t (nmS pre g) = (sgB g.list, 0) := by unfold readT; rw [hd, if_neg (by decide), f1]; simp only [f2]
    rw [← h1] at h2
    have hlo : loadS (sgB g.list) g.base = (g.list, (sgB g.list).length) := loadS_whole h2
    have ho : (false || (decide (0 < acc.length) && decide (g.base ≠ endS acc))) = false := by
      by_cases e : acc = []
      · subst e; rfl
      · simp only [Bool.false_or, Bool.and_eq_false_iff, decide_eq_false_iff_not]
        right
        rw [ha e, h1]
        simp
    rw [List.map_cons, findF, hbn]
    simp only
    rw [hgb, ho, if_neg (by decide), hrd]
    simp only
    rw [if_neg (by simp), hlo]
    simp only
    rw [if_pos trivial]
    have ih := findF_whole (pre := pre) hd s (acc ++ [g]) (endL n g.list) h3 (fun _ => by simp [endS, h1]) (fun x hx => hb x (by simp [hx])) (fun x hx => hf x (by simp [hx])) (fun x hx => hl x (by cases s with | nil => simp at hx | cons y s => simp [hx]))
    obtain ⟨gb, gl⟩ := g
    rw [ih]
    simp
end Go.Proofs.YtcpaaleogmiamaaGreatDoor
