/- Plain law: what is read of a strand, from any offset on, however few at a time. -/
/- The walk of a reader's More. -/
import Derived.Test.YtcpaaleogmiamaaGreatDoorMp23
import Derived.Test.YtcpaaleogmiamaaGreatDoorMp4
namespace Go.Proofs.YtcpaaleogmiamaaGreatDoor
open Go.RowKit

def allB (s : List Sg) : List Batch := s.flatMap (·.list)
def recsB (l : List Batch) : List Rec := l.flatMap (·.recs)
/-- What Batches hands over. -/
def batF (s : List Sg) (off : Int) : List Batch := (allB s).filter (fun b => decide (off < b.base + b.count))
/-- What Read answers. -/
def readF (s : List Sg) (off most : Int) : List Rec := ((recsB (batF s off)).filter (fun x => decide (off ≤ x.off))).take most.toNat

/-- Records rise from n on, below e. -/
def RiseR : Int → Int → List Rec → Prop
  | n, e, [] => n ≤ e
  | n, e, x :: l => n ≤ x.off ∧ x.off < e ∧ RiseR (x.off + 1) e l
theorem RiseR.append {m : List Rec} {e f : Int} : ∀ {l : List Rec} {n : Int}, RiseR n e l → RiseR e f m → RiseR n f (l ++ m)
  | [], n, h, h2 => by
    have h : n ≤ e := h
    cases m with
    | nil => have h2 : e ≤ f := h2; show n ≤ f; omega
    | cons x m => obtain ⟨a, b, c⟩ := h2; exact ⟨by omega, b, c⟩
  | x :: l, n, h, h2 => by
    obtain ⟨a, b, c⟩ := h
    have hef : e ≤ f := by
      cases m with
      | nil => exact h2
      | cons y m =>
        obtain ⟨p, q, -⟩ := h2
        omega
    exact ⟨a, by omega, c.append h2⟩
theorem RiseR.ge {e : Int} : ∀ {l : List Rec} {n : Int}, RiseR n e l → ∀ x ∈ l, n ≤ x.off ∧ x.off < e
  | y :: l, n, h, x, hx => by
    obtain ⟨a, b, c⟩ := h
    rcases List.mem_cons.1 hx with rfl | hx
    · exact ⟨a, b⟩
    · have := c.ge x hx
      omega
theorem RiseR.filter {e : Int} : ∀ {l : List Rec} {n : Int} (k : Nat) (x : Rec), RiseR n e l → l[k]? = some x → l.filter (fun y => decide (x.off + 1 ≤ y.off)) = l.drop (k + 1)
  | y :: l, n, 0, x, h, hk => by
    simp only [List.getElem?_cons_zero, Option.some.injEq] at hk
    subst hk
    rw [List.filter_cons_of_neg (by simp only [decide_eq_true_eq]; omega)]
    simp only [List.drop_succ_cons, List.drop_zero]
    exact List.filter_eq_self.2 (fun z hz => by have := h.2.2.ge z hz; simp only [decide_eq_true_eq]; omega)
  | y :: l, n, k + 1, x, h, hk => by
    simp only [List.getElem?_cons_succ] at hk
    have h1 := h.2.2.ge x (List.mem_of_getElem? hk)
    rw [List.filter_cons_of_neg (by simp only [decide_eq_true_eq]; omega), List.drop_succ_cons]
    exact RiseR.filter k x h.2.2 hk
theorem goodRecs_rise {e : Int} : ∀ {l : List Rec} {n : Int}, goodRecs e n l = true → n ≤ e → RiseR n e l
  | [], _, _, hn => hn
  | x :: l, n, h, hn => by
    simp only [goodRecs, Bool.and_eq_true, decide_eq_true_eq] at h
    exact ⟨h.2.1, h.2.2.1, goodRecs_rise h.2.2.2 (by omega)⟩
theorem chained_rise : ∀ {l : List Batch} {n : Int}, Chained n l → RiseR n (endL n l) (recsB l)
  | [], n, _ => Int.le_refl n
  | b :: l, n, h => by
    obtain ⟨h1, h2, h3⟩ := h
    have G := (goodB_iff b).1 h1
    have h4 := goodRecs_rise G.recs (by have := G.count; omega)
    rw [h2] at h4
    have h5 := chained_rise h3
    rw [h2] at h5
    simp only [recsB, List.flatMap_cons, endL, h2]
    exact h4.append h5

/-- The segments follow one another. -/
def ChainS : Int → List Sg → Prop
  | _, [] => True
  | n, g :: l => g.base = n ∧ Chained n g.list ∧ ChainS (endL n g.list) l
theorem ChainS.chained : ∀ {s : List Sg} {n : Int}, ChainS n s → Chained n (allB s)
  | [], _, _ => trivial
  | g :: s, n, h => by
    obtain ⟨h1, h2, h3⟩ := h
    simp only [allB, List.flatMap_cons]
    exact h2.append h3.chained
theorem ChainS.append {m : List Sg} : ∀ {s : List Sg} {n : Int}, ChainS n s → ChainS (endL n (allB s)) m → ChainS n (s ++ m)
  | [], _, _, h => h
  | g :: s, n, h, h' => by
    obtain ⟨h1, h2, h3⟩ := h
    simp only [allB, List.flatMap_cons, endL_append] at h'
    exact ⟨h1, h2, h3.append h'⟩

/-- Batches that end at or below an offset have no record from it on. -/
theorem batF_recs {l : List Batch} (hg : ∀ b ∈ l, goodB b = true) (off : Int) : (recsB (l.filter (fun b => decide (off < b.base + b.count)))).filter (fun x => decide (off ≤ x.off)) = (recsB l).filter (fun x => decide (off ≤ x.off)) := by
  induction l with
  | nil => rfl
  | cons b l ih =>
    have ih := ih (fun x hx => hg x (by simp [hx]))
    by_cases hb : off < b.base + b.count
    · rw [List.filter_cons_of_pos (by simpa using hb)]
      simp only [recsB, List.flatMap_cons, List.filter_append] at ih ⊢
      rw [ih]
    · rw [List.filter_cons_of_neg (by simpa using hb), ih]
      simp only [recsB, List.flatMap_cons, List.filter_append]
      have G := (goodB_iff b).1 (hg b (by simp))
      have h4 := goodRecs_rise G.recs (by have := G.count; omega)
      have e : b.recs.filter (fun x => decide (off ≤ x.off)) = [] := List.filter_eq_nil_iff.2 (fun x hx => by have := h4.ge x hx; simp only [decide_eq_true_eq]; omega)
      rw [e, List.nil_append]

theorem readF_eq {s : List Sg} {n : Int} (h : ChainS n s) (off most : Int) : readF s off most = ((recsB (allB s)).filter (fun x => decide (off ≤ x.off))).take most.toNat := by
  unfold readF batF
  rw [batF_recs (h.chained.good)]
/-- A read from 0 on. -/
theorem readF_zero {s : List Sg} {n : Int} (h : ChainS n s) (hn : 0 ≤ n) (most : Int) : readF s 0 most = (recsB (allB s)).take most.toNat := by
  rw [readF_eq h]
  congr 1
  exact List.filter_eq_self.2 (fun x hx => by have := (chained_rise h.chained).ge x hx; simp only [decide_eq_true_eq]; omega)
/-- A read from behind a record on. -/
theorem readF_next {s : List Sg} {n : Int} (h : ChainS n s) (k : Nat) (x : Rec) (hk : (recsB (allB s))[k]? = some x) (most : Int) : readF s (x.off + 1) most = ((recsB (allB s)).drop (k + 1)).take most.toNat := by
  rw [readF_eq h, RiseR.filter k x (chained_rise h.chained) hk]

/-! ### Reading on -/
/-- Where one reads on when k records have come. -/
def OffK (R : List Rec) (k : Nat) (off : Int) : Prop := (k = 0 ∧ off = 0) ∨ ∃ (j : Nat) (x : Rec), k = j + 1 ∧ R[j]? = some x ∧ off = x.off + 1
theorem readF_at {s : List Sg} {n : Int} (h : ChainS n s) (hn : 0 ≤ n) {k : Nat} {off : Int} (hk : OffK (recsB (allB s)) k off) (most : Int) : readF s off most = ((recsB (allB s)).drop k).take most.toNat := by
  rcases hk with ⟨rfl, rfl⟩ | ⟨j, x, rfl, hx, rfl⟩
  · rw [readF_zero h hn, List.drop_zero]
  · exact readF_next h j x hx most
theorem OffK.next {R : List Rec} {k m : Nat} (hm : 1 ≤ m) {y : Rec} (hy : ((R.drop k).take m).getLast? = some y) : OffK R (k + ((R.drop k).take m).length) (y.off + 1) := by
  have hl : 0 < ((R.drop k).take m).length := by
    cases h : (R.drop k).take m with
    | nil => rw [h] at hy; cases hy
    | cons => simp
  refine .inr ⟨k + ((R.drop k).take m).length - 1, y, by omega, ?_, rfl⟩
  rw [List.getLast?_eq_getElem?] at hy
  rw [← hy, List.getElem?_take, if_pos (by simp only [List.length_take] at hl ⊢; omega), List.getElem?_drop]
  congr 1
  omega
theorem OffK.take {R : List Rec} {k m : Nat} : R.take k ++ (R.drop k).take m = R.take (k + ((R.drop k).take m).length) := by
  rw [List.take_add]
  congr 1
  rw [List.take_eq_take_iff]
  simp only [List.length_take, List.length_drop]
  omega

/-! ### What an append does -/
theorem endS_all : ∀ {s : List Sg} {n : Int}, ChainS n s → s ≠ [] → endS s = endL n (allB s)
  | [], _, _, h => absurd rfl h
  | [g], n, h, _ => by
    obtain ⟨h1, h2, h3⟩ := h
    simp [endS, allB, h1]
  | g :: g' :: s, n, h, _ => by
    obtain ⟨h1, h2, h3⟩ := h
    have ih := endS_all h3 (by simp)
    have e1 : endS (g :: g' :: s) = endS (g' :: s) := by simp [endS]
    have e2 : allB (g :: g' :: s) = g.list ++ allB (g' :: s) := by simp [allB]
    rw [e1, ih, e2, endL_append]
theorem allB_append (s m : List Sg) : allB (s ++ m) = allB s ++ allB m := by simp [allB]
theorem ChainS.left {m : List Sg} : ∀ {s : List Sg} {n : Int}, ChainS n (s ++ m) → ChainS n s
  | [], _, _ => trivial
  | g :: s, n, h => by
    obtain ⟨h1, h2, h3⟩ := h
    exact ⟨h1, h2, h3.left⟩
theorem ChainS.right {m : List Sg} : ∀ {s : List Sg} {n : Int}, ChainS n (s ++ m) → ChainS (endL n (allB s)) m
  | [], _, h => h
  | g :: s, n, h => by
    obtain ⟨h1, h2, h3⟩ := h
    simp only [allB, List.flatMap_cons, endL_append]
    exact h3.right

/-- A strand whose segments follow one another. -/
def Lin (x : St) : Prop := ∃ n : Int, 0 ≤ n ∧ ChainS n x.segs
theorem Lin.push {s : List Sg} {n : Int} (hn : 0 ≤ n) (h : ChainS n s) {b : Batch} (hg : goodB b = true) (he : b.base = endS s) : (∃ n : Int, 0 ≤ n ∧ ChainS n (s ++ [⟨b.base, [b]⟩])) ∧ allB (s ++ [⟨b.base, [b]⟩]) = allB s ++ [b] := by
  refine ⟨?_, by simp [allB]⟩
  by_cases hs : s = []
  · subst hs
    exact ⟨b.base, by have := ((goodB_iff b).1 hg).base; omega, rfl, ⟨hg, rfl, trivial⟩, trivial⟩
  · exact ⟨n, hn, h.append ⟨by rw [he, endS_all h hs], ⟨hg, by rw [he, endS_all h hs], trivial⟩, trivial⟩⟩
theorem Lin.more {s : List Sg} {n : Int} (hn : 0 ≤ n) (h : ChainS n s) {g : Sg} (hl : s.getLast? = some g) {b : Batch} (hg : goodB b = true) (he : b.base = endS s) : (∃ n : Int, 0 ≤ n ∧ ChainS n (s.set (s.length - 1) ⟨g.base, g.list ++ [b]⟩)) ∧ allB (s.set (s.length - 1) ⟨g.base, g.list ++ [b]⟩) = allB s ++ [b] := by
  have hs : s ≠ [] := fun e => by rw [e] at hl; cases hl
  obtain ⟨m, rfl⟩ : ∃ m, s = m ++ [g] := by
    refine ⟨s.dropLast, ?_⟩
    have e := List.dropLast_concat_getLast hs
    rw [List.getLast?_eq_some_getLast hs] at hl
    simp only [Option.some.injEq] at hl
    rw [hl] at e
    exact e.symm
  have e1 : (m ++ [g]).set ((m ++ [g]).length - 1) ⟨g.base, g.list ++ [b]⟩ = m ++ [⟨g.base, g.list ++ [b]⟩] := by simp
  rw [e1]
  have e2 := endS_all h hs
  refine ⟨⟨n, hn, h.left.append ?_⟩, by simp [allB]⟩
  obtain ⟨h1, h2, -⟩ := h.right
  refine ⟨h1, h2.append ⟨hg, ?_, trivial⟩, trivial⟩
  rw [he, e2, allB_append, endL_append]
  simp [allB]
theorem appS_lin {t : Tp} {x : St} (h : Lin x) (b : Batch) : Lin (appS t x b).2.1 ∧ ((appS t x b).2.2 = 0 → allB (appS t x b).2.1.segs = allB x.segs ++ [b] ∧ goodB b = true ∧ b.base = endS x.segs) ∧ ((appS t x b).2.2 ≠ 0 → (appS t x b).2.1.segs = x.segs) := by
  obtain ⟨n, hn, hc⟩ := h
  unfold appS
  split
  · exact ⟨⟨n, hn, hc⟩, fun h => absurd h (by simp), fun _ => rfl⟩
  split
  · exact ⟨⟨n, hn, hc⟩, fun h => absurd h (by simp), fun _ => rfl⟩
  split
  · exact ⟨⟨n, hn, hc⟩, fun h => absurd h (by simp), fun _ => rfl⟩
  rename_i hr hg he
  have hg : goodB b = true := by simpa using hg
  have he : b.base = endS x.segs := by simpa using he
  have hfull : Lin (fullS t x b).2.1 ∧ ((fullS t x b).2.2 = 0 → allB (fullS t x b).2.1.segs = allB x.segs ++ [b] ∧ goodB b = true ∧ b.base = endS x.segs) ∧ ((fullS t x b).2.2 ≠ 0 → (fullS t x b).2.1.segs = x.segs) := by
    have hss := (syncS_segs t x).1
    unfold fullS
    split
    · rename_i h0
      exact ⟨⟨n, hn, by rw [hss]; exact hc⟩, fun h => absurd h h0, fun _ => hss⟩
    · obtain ⟨q1, q2⟩ := Lin.push hn hc hg he
      refine ⟨?_, fun h => ?_, fun h => ?_⟩
      · simp only
        split
        · exact q1
        · exact ⟨n, hn, by simp only [stDid, hss]; exact hc⟩
      · simp only at h ⊢
        rw [if_pos h]
        exact ⟨q2, hg, he⟩
      · simp only at h ⊢
        rw [if_neg h]
        simp only [stDid, hss]
  split
  · rename_i g hl
    split
    · obtain ⟨q1, q2⟩ := Lin.more hn hc hl hg he
      unfold moreS
      refine ⟨?_, fun h => ?_, fun h => ?_⟩
      · simp only
        split
        · exact q1
        · exact ⟨n, hn, hc⟩
      · simp only at h ⊢
        rw [if_pos h]
        exact ⟨q2, hg, he⟩
      · simp only at h ⊢
        rw [if_neg h]
        rfl
    · exact hfull
  · exact hfull
end Go.Proofs.YtcpaaleogmiamaaGreatDoor
namespace Go.Proofs.YtcpaaleogmiamaaGreatDoor
open Go.RowKit

theorem BrMore_any {w : World} {p : Nat} {st : RS} (h : RdAt w p st) :
    Calls Tryz.prog 231 #[.pointer (some ⟨p, 0, none⟩)] w fun e w' => e = .returned (.bool (rdM st)) ∧ w' = w := by
  obtain ⟨s, b⟩ := st
  have R := Lib.hid (ready_any h)
  have c0 := h.cell0
  clear h
  cases b
  · cases s with
    | nil =>
      have hM : rdM ([], false) = false := rfl
      rw [hM]
      have e0 : (bs []).toList = [] := bs_toList []
      go_enter Tryz.func231, Tryz.ntmps231
      go_wp2_with (first | (go_at_call 207; refine R.out.mono ?_; rintro e w1 ⟨rfl, rfl⟩))
      go_ret
      exact ⟨rfl, rfl⟩
    | cons a r =>
      have e0 : ¬ (bs (a :: r)).toList = [] := by rw [bs_toList]; simp
      have hz : (0 : Int) < ((bs (a :: r)).size : Int) := by rw [bs_size]; simp only [List.length_cons]; omega
      go_enter Tryz.func231, Tryz.ntmps231
      go_wp2_with (first | (go_at_call 207; refine R.out.mono ?_; rintro e w1 ⟨rfl, rfl⟩))
      go_ret
      refine ⟨ret_b ?_, rfl⟩
      rw [bs_get, bs_toList]
      simp only [rdM, List.isEmpty_cons, Bool.not_false, Bool.true_and, List.getElem_cons_zero, List.head?_cons, ne_eq, Option.some.injEq]
      exact byte_ne a 101
  · have hM : rdM (s, true) = false := rfl
    rw [hM]
    go_enter Tryz.func231, Tryz.ntmps231
    go_wp2_with (first | (go_at_call 207; refine R.out.mono ?_; rintro e w1 ⟨rfl, rfl⟩))
    go_ret
    exact ⟨rfl, rfl⟩
end Go.Proofs.YtcpaaleogmiamaaGreatDoor
