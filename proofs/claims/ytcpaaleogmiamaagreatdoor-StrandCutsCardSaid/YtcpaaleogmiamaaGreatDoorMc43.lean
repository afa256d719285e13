/- The walk of strand.Cut. -/
import Derived.Test.YtcpaaleogmiamaaGreatDoorMc41
import Derived.Test.YtcpaaleogmiamaaGreatDoorMc39
import Derived.Test.YtcpaaleogmiamaaGreatDoorMc42
namespace Go.Proofs.YtcpaaleogmiamaaGreatDoor
open Go.RowKit

theorem tw_go {α : Type} {p : α → Bool} : ∀ {l : List α} {q : Nat} (hq : q < l.length), q ≤ (l.takeWhile p).length → p l[q] = true → q + 1 ≤ (l.takeWhile p).length
  | x :: l, 0, _, _, hp => by
    simp only [List.getElem_cons_zero] at hp
    rw [List.takeWhile_cons_of_pos hp]
    simp
  | x :: l, q + 1, hq, h, hp => by
    by_cases hx : p x = true
    · rw [List.takeWhile_cons_of_pos hx] at h ⊢
      simp only [List.length_cons] at h ⊢
      have := tw_go (p := p) (l := l) (q := q) (by simpa using hq) (by omega) (by simpa using hp)
      omega
    · rw [List.takeWhile_cons_of_neg hx] at h
      simp at h
theorem tw_stop {α : Type} {p : α → Bool} : ∀ {l : List α} {q : Nat}, q ≤ (l.takeWhile p).length → (∀ hq : q < l.length, p l[q] = false) → q = (l.takeWhile p).length
  | [], q, h, _ => by simpa using h
  | x :: l, 0, _, hp => by
    have := hp (by simp)
    simp only [List.getElem_cons_zero] at this
    rw [List.takeWhile_cons_of_neg (by rw [this]; decide)]
    rfl
  | x :: l, q + 1, h, hp => by
    by_cases hx : p x = true
    · rw [List.takeWhile_cons_of_pos hx] at h ⊢
      simp only [List.length_cons] at h ⊢
      have := tw_stop (p := p) (l := l) (q := q) (by omega) (fun hq => by have := hp (by simpa using hq); simpa using this)
      omega
    · rw [List.takeWhile_cons_of_neg hx] at h
      simp at h
theorem cutN_go {s : List Sg} {off : Int} {i : Nat} (h1 : 1 ≤ i) (hi : i < s.length) (h : i ≤ cutN s off) (hb : s[i].base < off) : i + 1 ≤ cutN s off := by
  cases s with
  | nil => simp at hi
  | cons g s =>
    obtain ⟨q, rfl⟩ : ∃ q, i = q + 1 := ⟨i - 1, by omega⟩
    simp only [cutN, List.tail_cons] at h ⊢
    have := tw_go (p := fun g : Sg => decide (g.base < off)) (l := s) (q := q) (by simpa using hi) (by omega) (by simpa using hb)
    omega
theorem cutN_stop {s : List Sg} {off : Int} {i : Nat} (h1 : 1 ≤ i) (hs : s ≠ []) (h : i ≤ cutN s off) (hb : ∀ hi : i < s.length, ¬ s[i].base < off) : i = cutN s off := by
  cases s with
  | nil => exact absurd rfl hs
  | cons g s =>
    obtain ⟨q, rfl⟩ : ∃ q, i = q + 1 := ⟨i - 1, by omega⟩
    simp only [cutN, List.tail_cons] at h ⊢
    have := tw_stop (p := fun g : Sg => decide (g.base < off)) (l := s) (q := q) (by omega) (fun hq => by have := hb (by simpa using hq); simpa using this)
    omega

theorem dropS_zero : ∀ (k : Nat) (t : Tp) (x : St) (i : Nat), i + k ≤ x.segs.length → (dropS t x i k).2.2 = 0 → (dropS t x i k).2.1.segs.length = x.segs.length - k
  | 0, _, _, _, _, _ => rfl
  | k + 1, t, x, i, hk, h => by
    rw [dropS, List.getElem?_eq_getElem (by omega)] at h ⊢
    simp only at h ⊢
    split at h
    · rename_i h0
      rw [if_pos h0]
      have hl : (x.segs.eraseIdx i).length = x.segs.length - 1 := by rw [List.length_eraseIdx, if_pos (by omega)]
      have := dropS_zero k _ { x with segs := x.segs.eraseIdx i } i (by simp only [hl]; omega) h
      rw [this]
      simp only [hl]
      omega
    · rename_i h0
      exact absurd h h0
theorem dropS_mem : ∀ (k : Nat) (t : Tp) (x : St) (i : Nat), ∀ g ∈ (dropS t x i k).2.1.segs, g ∈ x.segs
  | 0, _, _, _, g, h => h
  | k + 1, t, x, i, g, h => by
    rw [dropS] at h
    split at h
    · exact h
    · split at h
      · exact List.mem_of_mem_eraseIdx (dropS_mem k _ _ i g h)
      · exact h

theorem BsIn.take {w : World} {D : Nat → Prop} {a : Option Addr} {n c : Nat} {l : List Batch} (h : BsIn w D (.slice a n c) l) (k : Nat) (hk : k ≤ l.length) : BsIn w D (.slice a k c) (l.take k) := by
  obtain ⟨m, rfl, h1, h2⟩ := h
  have hk : k ≤ m.length := by simpa using hk
  refine ⟨m.take k, by rw [List.map_take], h1.imp (fun W hW => ?_), fun x hx => h2 x (List.mem_of_mem_take hx)⟩
  have hl : (m.take k).length = k := by rw [List.length_take, Nat.min_eq_left hk]
  rw [hl, bCells_take]
  exact hW.take k hk
/-- A list of batches, cloned: its records lie where they lay. -/
theorem CloneBs_in {w : World} {D : Nat → Prop} {v : Value} {l : List Batch} (h : BsIn w D v l) (hl : l.length ≤ 1000000000) (hD : ∀ c, D c → c < w.heap.size) :
    Calls Tryz.prog 126 #[v] w fun e w' => ∃ cv, e = .returned cv ∧ BsIn w' (fun c => D c ∨ (w.heap.size ≤ c ∧ c < w'.heap.size)) cv l ∧ Below w.heap.size w w' := by
  obtain ⟨m, rfl, h1, h2⟩ := h
  refine Calls.mono (CloneBs_any h1.here (one_bs (fun x hx => rd_one (h2 x hx).here)) (by simpa using hl)) ?_
  rintro e w' ⟨cv, rfl, ho, hb⟩
  refine ⟨cv, rfl, ⟨m, rfl, (owns_inS ho (S := fun c => w.heap.size ≤ c ∧ c < w'.heap.size) (fun g hg => owns_lt ho g hg)).grow (fun c hc _ => .inr hc), fun x hx => ((h2 x hx).below hb).grow (fun c hc _ => .inl hc)⟩, hb⟩

/-- A segment's list is another one. -/
theorem Sd.setList {w0 w w1 : World} {S D : Nat → Prop} {sb b mb gb n cap : Nat} {L : TpL} {x : St} {t : Tp} {m : List (Value × Sg)} (h : Sd w0 w S sb b mb L x t) (hi : StIn w S sb b x (.slice (some ⟨gb, 0, none⟩) n cap) m D) (hb : Below w.heap.size w w1) (k : Nat) (hk : k < m.length) {lv' : Value} {l' : List Batch}
    (hl : BsIn w1 (fun c => D c ∨ (w.heap.size ≤ c ∧ c < w1.heap.size)) lv' l') (hok : Chained m[k].2.base l') (c : Int) :
    SdTo w0 w S sb b mb L (t, { x with segs := x.segs.set k ⟨m[k].2.base, l'⟩ }, c) (.returned (.int .i64 c)) ((w1.setCell ⟨gb, k * 3 + 1, none⟩ lv').setCell ⟨gb, k * 3 + 2, none⟩ (.int .i64 ((sgB l').length : Int))) := by
  have hz := hb.size
  have hgS : S gb := hi.ownG gb rfl
  have hglt := hi.lt gb hgS
  have hslt := hi.lt sb hi.own
  obtain ⟨q1, q2⟩ := (hi.below hb).setList k hk hl (fun c hc => by
    rcases hc with hc | ⟨h1, h2⟩
    · have ha := hi.apart c hc
      have := hi.lt c ha.1
      exact ⟨by omega, ha.2.1, fun e => ha.2.2 (by rw [e]; rfl)⟩
    · exact ⟨h2, by omega, by omega⟩)
  have q2' : Upd (SdF S b mb L) w1 ((w1.setCell ⟨gb, k * 3 + 1, none⟩ lv').setCell ⟨gb, k * 3 + 2, none⟩ (.int .i64 ((sgB l').length : Int))) := q2.mono (fun c _ e => .inl (by rw [e]; exact hgS))
  have hU := (Upd.of_below hb).trans q2'
  have h1 := h.below hb
  refine ⟨_, L, rfl, ⟨⟨_, _, _, q1⟩, h1.tp.upd q2 (fun c hc e => h.apart c hc (by rw [e]; exact hgS)), fun c hc hs => ?_, ⟨h.ok.pre, h.ok.size, fun g hg => ?_⟩, h.names, h.base.trans (hU.toBelow h.base.size (fun c hc => hc.elim (h.aboveS c) (h.aboveT c))), fun c hc => ?_, h.aboveT⟩, hU, fun c hc => ?_, fun c hc => .inl hc⟩
  · rcases hs with hs | hs | hs
    · exact h.apart c hc hs
    · exact h.apart c hc (hi.apart c hs).1
    · have := h.tp.fLt c hc; omega
  · rcases List.mem_or_eq_of_mem_set hg with hg | rfl
    · exact h.ok.segs g hg
    · have hmk : m[k].2 ∈ x.segs := by rw [← hi.segs]; exact List.mem_map_of_mem (List.getElem_mem hk)
      have := h.ok.segs _ hmk
      exact ⟨this.1, this.2.1, hok⟩
  · rcases hc with hc | hc | hc
    · exact h.aboveS c hc
    · exact h.aboveS c (hi.apart c hc).1
    · have := h.base.size; omega
  · rcases hc with hc | hc | hc
    · exact .inl hc
    · exact .inl (hi.apart c hc).1
    · exact .inr hc.1

set_option maxRecDepth 100000 in
set_option maxHeartbeats 4000000 in
theorem StCut_any {w0 w : World} {S : Nat → Prop} {sb b mb : Nat} {L : TpL} {x : St} {t : Tp} (hE : Env w0) (h : Sd w0 w S sb b mb L x t) (off : Int) (hsl : x.segs.length ≤ 1000) (hll : ∀ g ∈ x.segs, g.list.length ≤ 1000) :
    Calls Tryz.prog 57 #[.pointer (some ⟨sb, 0, none⟩), .int .i64 off] w (SdTo w0 w S sb b mb L (cutS t x off)) := by
  obtain ⟨R, hR⟩ : ∃ R, cutS t x off = R := ⟨_, rfl⟩
  rw [hR]
  have hrd := Stready_any h.st h.tp
  obtain ⟨rb, hrb⟩ : ∃ r, stReadyB t x = r := ⟨_, rfl⟩
  rw [hrb] at hrd
  rw [cutS, hrb] at hR
  have HR := Lib.hid hrd
  have H := Lib.hid h
  clear hrd hrb h
  cases rb with
  | true =>
    rw [if_pos rfl] at hR
    simp only [if_true] at HR
    subst hR
    go_enter Tryz.func57, Tryz.ntmps57
    go_wp2_with (first | (go_at_call 86; refine HR.out.mono ?_; rintro _ w1 ⟨rfl, hb1⟩))
    go_ret
    exact SdTo.same H.out 10 hb1
  | false =>
    rw [if_neg (by decide)] at hR
    simp only [Bool.false_eq_true, if_false] at HR
    have hst : ∀ W, Below w.heap.size w W → Calls Tryz.prog 54 #[.pointer (some ⟨sb, 0, none⟩)] W fun e w' => e = .returned (.int .i64 (startS x.segs)) ∧ w' = W := fun W hW => StStart_any (H.out.below hW).st
    have hen : ∀ W, Below w.heap.size w W → Calls Tryz.prog 32 #[.pointer (some ⟨sb, 0, none⟩)] W fun e w' => e = .returned (.int .i64 (endS x.segs)) ∧ Below w.heap.size w w' := fun W hW => Calls.mono (StEnd_any (H.out.below hW).st H.out.ok) (fun e w' q => ⟨q.1, below_trans hW q.2⟩)
    have hac : ∀ W, Below w.heap.size w W → Calls Tryz.prog 125 #[.pointer (some ⟨sb, 0, none⟩), .int .i64 off] W fun e w' => e = .returned (.bool (acrossB x.segs off)) ∧ Below w.heap.size w w' := fun W hW => by
      obtain ⟨gv, m, D, hin⟩ := (H.out.below hW).st
      exact Calls.mono (StAcross_any hin H.out.ok (by omega) (fun g hg => by have := hll g hg; omega) off) (fun e w' q => ⟨q.1, below_trans hW q.2⟩)
    obtain ⟨sv, hsv⟩ : ∃ sv, startS x.segs = sv := ⟨_, rfl⟩
    obtain ⟨ev, hev⟩ : ∃ ev, endS x.segs = ev := ⟨_, rfl⟩
    obtain ⟨ab, hab⟩ : ∃ ab, acrossB x.segs off = ab := ⟨_, rfl⟩
    rw [hsv] at hst hR
    rw [hev] at hen hR
    rw [hab] at hac hR
    have HST := Lib.hid hst
    have HEN := Lib.hid hen
    have HAC := Lib.hid hac
    have HLL := Lib.hid hll
    clear hst hen hac hsv hev hab hll
    by_cases hlo : off < sv
    · rw [if_pos (.inl hlo)] at hR
      subst hR
      go_enter Tryz.func57, Tryz.ntmps57
      go_wp2_with (first | (go_at_call 86; refine HR.out.mono ?_; rintro _ w1 ⟨rfl, hb1⟩) | (go_at_call 54; refine (HST.out _ hb1).mono ?_; rintro _ w2 ⟨rfl, hw2⟩; subst hw2))
      go_ret
      exact SdTo.same H.out 1 hb1
    by_cases hhi : ev < off
    · rw [if_pos (.inr (.inl hhi))] at hR
      subst hR
      go_enter Tryz.func57, Tryz.ntmps57
      go_wp2_with (first | (go_at_call 86; refine HR.out.mono ?_; rintro _ w1 ⟨rfl, hb1⟩) | (go_at_call 54; refine (HST.out _ hb1).mono ?_; rintro _ w2 ⟨rfl, hw2⟩; subst hw2) | (go_at_call 32; refine (HEN.out _ hb1).mono ?_; rintro _ w3 ⟨rfl, hb3⟩))
      go_ret
      exact SdTo.same H.out 1 hb3
    cases ab with
    | true =>
      rw [if_pos (.inr (.inr rfl))] at hR
      subst hR
      go_enter Tryz.func57, Tryz.ntmps57
      go_wp2_with (first | (go_at_call 86; refine HR.out.mono ?_; rintro _ w1 ⟨rfl, hb1⟩) | (go_at_call 54; refine (HST.out _ hb1).mono ?_; rintro _ w2 ⟨rfl, hw2⟩; subst hw2) | (go_at_call 32; refine (HEN.out _ hb1).mono ?_; rintro _ w3 ⟨rfl, hb3⟩) | (go_at_call 125; refine (HAC.out _ hb3).mono ?_; rintro _ w4 ⟨rfl, hb4⟩))
      go_ret
      exact SdTo.same H.out 1 hb4
    | false =>
    rw [if_neg (by simp; omega)] at hR
    obtain ⟨n, hn⟩ : ∃ n, x.segs.length = n := ⟨_, rfl⟩
    by_cases h0 : n = 0
    · subst h0
      rw [if_pos hn] at hR
      have hc3 : ∀ W, Below w.heap.size w W → ∃ ga gc, W.cell? ⟨sb, 3, none⟩ = some (.slice ga 0 gc) := fun W hW => by
        obtain ⟨gv, m, D, hin⟩ := (H.out.below hW).st
        obtain ⟨ga, gc, rfl, -⟩ := hin.seg
        exact ⟨ga, gc, by rw [← hn]; exact hin.cells.2.2.2.1⟩
      have HC := Lib.hid hc3
      clear hc3 hn
      subst hR
      go_enter Tryz.func57, Tryz.ntmps57
      go_wp2_with (first | (go_at_call 86; refine HR.out.mono ?_; rintro _ w1 ⟨rfl, hb1⟩) | (go_at_call 54; refine (HST.out _ hb1).mono ?_; rintro _ w2 ⟨rfl, hw2⟩; subst hw2) | (go_at_call 32; refine (HEN.out _ hb1).mono ?_; rintro _ w3 ⟨rfl, hb3⟩) | (go_at_call 125; refine (HAC.out _ hb3).mono ?_; rintro _ w4 ⟨rfl, hb4⟩; obtain ⟨ga, gc, c3⟩ := HC.out _ hb4))
      go_ret
      exact SdTo.same H.out 0 hb4
    · rw [if_neg (by rw [hn]; exact h0)] at hR
      have hne : x.segs ≠ [] := fun e => by rw [e] at hn; exact h0 hn.symm
      obtain ⟨p, hp⟩ : ∃ p, cutN x.segs off = p := ⟨_, rfl⟩
      have hp1 : 1 ≤ p := by rw [← hp]; unfold cutN; omega
      have hpn : p ≤ n := by rw [← hp, ← hn]; exact cutN_le off hne
      have hgo : ∀ i (hi : i < x.segs.length), 1 ≤ i → i ≤ p → x.segs[i].base < off → i + 1 ≤ p := fun i hi h1 h2 h3 => by rw [← hp] at h2 ⊢; exact cutN_go h1 hi h2 h3
      have hstop : ∀ i, 1 ≤ i → i ≤ p → (∀ hi : i < x.segs.length, off ≤ x.segs[i].base) → i = p := fun i h1 h2 h3 => by rw [← hp] at h2 ⊢; exact cutN_stop h1 hne h2 (fun hi => by have := h3 hi; omega)
      rw [hp, hn] at hR
      obtain ⟨gv, m, D, hin⟩ := H.out.st
      obtain ⟨ga, gc, rfl, -, hsg⟩ := hin.seg
      obtain ⟨gb, -, -, rfl, -⟩ := hsg 0 (by omega)
      have hcl : ∀ W, Below w.heap.size w W → W.cell? ⟨sb, 3, none⟩ = some (.slice (some ⟨gb, 0, none⟩) n gc) ∧ ∀ i (hi : i < x.segs.length), W.cell? ⟨gb, i * 3, none⟩ = some (.int .i64 x.segs[i].base) := fun W hW => by
        have h1 := hin.below hW
        refine ⟨by rw [← hn]; exact h1.cells.2.2.2.1, fun i hi => ?_⟩
        have hk : i < m.length := by rw [h1.len]; exact hi
        have e : m[i].2 = x.segs[i] := by simp only [← h1.segs, List.getElem_map]
        rw [(h1.segk i hk).1, e]
      have hdr : ∀ W, Below w.heap.size w W → Calls Tryz.prog 123 #[.pointer (some ⟨sb, 0, none⟩), .int .i64 (p : Int), .int .i64 ((n : Int) - (p : Int))] W (SdTo w0 W S sb b mb L (dropS t x p (n - p))) := fun W hW => by
        have e : (n : Int) - (p : Int) = ((n - p : Nat) : Int) := by omega
        rw [e]
        exact Stdrop_any hE (H.out.below hW) p (n - p) (by omega) (by omega)
      have hz := dropS_zero (n - p) t x p (by omega)
      have hmm := dropS_mem (n - p) t x p
      obtain ⟨r1, hr1⟩ : ∃ r1, dropS t x p (n - p) = r1 := ⟨_, rfl⟩
      rw [hr1] at hdr hR hz hmm
      obtain ⟨t1, x1, c1⟩ := r1
      simp only at hR hz hmm
      have HCL := Lib.hid hcl
      have HGO := Lib.hid hgo
      have HSP := Lib.hid hstop
      have HDR := Lib.hid hdr
      have HRR := Lib.hid hR
      have HZ := Lib.hid (And.intro hz (And.intro hmm hn))
      clear hcl hgo hstop hdr hR hz hmm hin hsg hr1 hp hne
      go_enter Tryz.func57, Tryz.ntmps57
      go_wp2_with fail
      refine HR.out.mono ?_
      rintro _ w1 ⟨rfl, hb1⟩
      go_wp2_with fail
      refine (HST.out _ hb1).mono ?_
      rintro _ w2 ⟨rfl, hw2⟩
      subst hw2
      go_wp2_with fail
      refine (HEN.out _ hb1).mono ?_
      rintro _ w3 ⟨rfl, hb3⟩
      go_wp2_with fail
      refine (HAC.out _ hb3).mono ?_
      rintro _ w4 ⟨rfl, hb4⟩
      obtain ⟨c3, hcb⟩ := HCL.out _ hb4
      have HCB := Lib.hid hcb
      clear hcb
      have hnx := HZ.out.2.2
      have hb2 : (n : Int) ≠ 0 := by omega
      have hb5 : ((n : Int) == 0) = false := by simpa using hb2
      have hnl : (n : Int) ≤ 1000 := by omega
      clear hb1 hb3 HR HST HEN HAC hnx
      go_wp2_with fail
      go_loopg [6] (n - 1) (fun gk v6 wr => ∃ i : Nat, 1 ≤ i ∧ i ≤ p ∧ gk = n - i ∧ v6 = .int .i64 (i : Int) ∧ wr = w4)
      case atStart => exact ⟨1, Nat.le_refl _, hp1, rfl, rfl, rfl⟩
      case round =>
        obtain ⟨i, hi1, hip, rfl, rfl, rfl⟩ := hrel
        by_cases hgo : ∃ hi : i < x.segs.length, x.segs[i].base < off
        · obtain ⟨hix, hlt⟩ := hgo
          have hnx := HZ.out.2.2
          have hin : i < n := by omega
          have cb := HCB.out i hix
          have hi2 := HGO.out i hix hi1 hip hlt
          obtain ⟨bv, hbv⟩ : ∃ bv, x.segs[i].base = bv := ⟨_, rfl⟩
          rw [hbv] at cb hlt
          have j1 : (i : Int) < (n : Int) := by omega
          have j2 : (0 : Int) ≤ (i : Int) := by omega
          clear hnx hbv
          go_wp2_with fail
          go_roundg (n - (i + 1))
          case measure => omega
          case rel => exact ⟨i + 1, by omega, hi2, rfl, by go_num, rfl⟩
        · have hip2 : i = p := HSP.out i hi1 hip (fun hi => Int.not_lt.1 (fun h => hgo ⟨hi, h⟩))
          have hex : i < n → ∃ bv, wr.cell? ⟨gb, i * 3, none⟩ = some (.int .i64 bv) ∧ off ≤ bv := fun hi => by
            have hix : i < x.segs.length := by rw [HZ.out.2.2]; exact hi
            exact ⟨_, HCB.out i hix, Int.not_lt.1 (fun h => hgo ⟨hix, h⟩)⟩
          subst hip2
          have HEX := Lib.hid hex
          clear hgo hex
          go_upto_region 9 with fail
          go_cut [58] from 40 to 57 (fun v58 wc => v58 = .bool false ∧ wc = wr)
          case first =>
            by_cases hin : i < n
            · obtain ⟨bv, cb, hnb⟩ := HEX.out hin
              have j1 : (i : Int) < (n : Int) := by omega
              have j2 : (0 : Int) ≤ (i : Int) := by omega
              go_wp2_with fail
              go_meet
              exact ⟨by simpa using hnb, rfl⟩
            · have j1 : ¬ (i : Int) < (n : Int) := by omega
              go_wp2_with fail
              go_meet
              exact ⟨rfl, rfl⟩
          case rest =>
            obtain ⟨rfl, hwc⟩ := hcut
            subst hwc
            have hsub : wrap64 ((n : Int) - (i : Int)) = (n : Int) - (i : Int) := IntWalk.wrap64_in _ (by omega)
            have HB4 := Lib.hid hb4
            clear HCB hb4 HEX HGO HSP HCL
            go_wp2_with fail
            with_reducible refine (HDR.out _ HB4.out).mono ?_
            rintro e w5 ⟨S5, L5, rfl, hd5, hu5, hS5, hL5⟩
            simp only at hd5
            have hu05 : Upd (SdF S b mb L) w w5 := (Upd.of_below HB4.out).trans hu5
            have hS05 : ∀ k, S5 k → S k ∨ w.heap.size ≤ k := fun k hk => (hS5 k hk).imp id (fun h => Nat.le_trans HB4.out.size h)
            have hL05 : ∀ k ∈ tpBlocks L5, k ∈ tpBlocks L ∨ w.heap.size ≤ k := fun k hk => (hL5 k hk).imp id (fun h => Nat.le_trans HB4.out.size h)
            have HU := Lib.hid (And.intro hu05 (And.intro hS05 hL05))
            have HD5 := Lib.hid hd5
            clear hu5 hS5 hL5 hu05 hS05 hL05 hd5 hsub HDR HB4
            by_cases hc1 : c1 = 0
            case neg =>
              have hc2 : (c1 != 0) = true := by simpa using hc1
              have hfin : SdTo w0 w S sb b mb L R (.returned (.int .i64 c1)) w5 := by
                have hRq := HRR.out
                rw [if_neg hc1] at hRq
                rw [← hRq]
                exact SdTo.since HU.out.1 HU.out.2.1 HU.out.2.2 (SdTo.same HD5.out c1 (Below.refl _ _))
              have HFIN := Lib.hid hfin
              clear hfin HU HD5 HRR HZ HLL hc1
              go_wp2_with fail
              go_ret
              exact HFIN.out
            case pos =>
              subst hc1
              have hRq := HRR.out
              rw [if_pos rfl] at hRq
              obtain ⟨hz, hmm, hnx⟩ := HZ.out
              have hz := hz rfl
              obtain ⟨q, hq⟩ : ∃ q, x1.segs.length = q + 1 := ⟨i - 1, by rw [hz, hnx]; omega⟩
              have hd5 := HD5.out
              obtain ⟨gv, m, D, hin⟩ := hd5.st
              obtain ⟨ga, gc5, rfl, -, hsg⟩ := hin.seg
              obtain ⟨g5, -, -, rfl, -⟩ := hsg q (by omega)
              obtain ⟨g, hg⟩ : ∃ g, x1.segs[q]'(by omega) = g := ⟨_, rfl⟩
              have hglast : x1.segs.getLast? = some g := by rw [last_at hq, hg]
              have hgm : g ∈ x.segs := hmm g (by rw [← hg]; exact List.getElem_mem _)
              have hgl := HLL.out g hgm
              have hgo := hd5.ok.segs g (by rw [← hg]; exact List.getElem_mem _)
              have hmq : q < m.length := by rw [hin.len, hq]; omega
              have hmg : m[q].2 = g := by rw [← hg]; simp only [← hin.segs, List.getElem_map]
              obtain ⟨lv, hlv⟩ : ∃ lv, m[q].1 = lv := ⟨_, rfl⟩
              have hlin : BsIn w5 D lv g.list := by rw [← hmg, ← hlv]; exact hin.lists _ (List.getElem_mem hmq)
              obtain ⟨la, lc, rfl, hlcap, -⟩ := BsRd.cells hlin.here
              have hcq : ∀ W, StIn W S5 sb b x1 (.slice (some ⟨g5, 0, none⟩) x1.segs.length gc5) m D → W.cell? ⟨g5, q * 3 + 1, none⟩ = some (.slice la g.list.length lc) ∧ W.cell? ⟨g5, q * 3, none⟩ = some (.int .i64 g.base) ∧ W.cell? ⟨sb, 0, none⟩ = some (.pointer (some ⟨b, 0, none⟩)) ∧ ∀ i, W.frozen? ⟨g5, i, none⟩ = false := fun W hW => by
                obtain ⟨k1, k2, k3, k4, k5⟩ := hW.segk q hmq
                rw [hmg] at k1
                rw [hlv] at k2
                exact ⟨k2, k1, hW.cells.1, k4⟩
              have hlast := Stlast_some hin hq
              obtain ⟨K, hK⟩ : ∃ K, (headL g.list off).length = K := ⟨_, rfl⟩
              have hKl : K ≤ g.list.length := by rw [← hK]; exact (List.takeWhile_sublist _).length_le
              have hKe : headL g.list off = g.list.take K := by
                have := List.takeWhile_prefix (p := fun b : Batch => decide (b.base < off)) (l := g.list)
                rw [← hK]
                exact List.prefix_iff_eq_take.1 this
              have hgo1 : ∀ j (hj : j < g.list.length), j ≤ K → g.list[j].base < off → j + 1 ≤ K := fun j hj h2 h3 => by rw [← hK] at h2 ⊢; exact tw_go (p := fun b : Batch => decide (b.base < off)) hj h2 (by simpa using h3)
              have hst1 : ∀ j, j ≤ K → (∀ hj : j < g.list.length, off ≤ g.list[j].base) → j = K := fun j h2 h3 => by rw [← hK] at h2 ⊢; exact tw_stop (p := fun b : Batch => decide (b.base < off)) h2 (fun hj => by simpa using h3 hj)
              have HL := Lib.hid hlast
              have HGO := Lib.hid hgo1
              have HSP := Lib.hid hst1
              have HIN := Lib.hid hin
              have HLI := Lib.hid hlin
              have HG := Lib.hid (And.intro hgo (And.intro hglast (And.intro hmg (And.intro hlv hmq))))
              have HKE := Lib.hid hKe
              have HCQ := Lib.hid hcq
              have HQ := Lib.hid hq
              have HRQ := Lib.hid hRq
              clear hRq hz hmm hnx hd5 hin hsg hg hglast hgm hgo hmg hlv hlin hcq hlast hK hKe hgo1 hst1 HRR HZ HLL hq
              go_wp2_with fail
              refine HL.out.mono ?_
              rintro _ w6 ⟨bq, hbq, rfl, hb6⟩
              obtain rfl : g5 = bq := by simpa [Value.ownBlock] using hbq
              have hi6 := HIN.out.below hb6
              obtain ⟨k1, k2, k3, k4⟩ := HCQ.out w6 hi6
              have hlb : ∀ j (hj : j < g.list.length), ∃ bb bo, la = some ⟨bb, bo, none⟩ ∧ w6.cell? ⟨bb, bo + j * 6, none⟩ = some (.int .i64 g.list[j].base) := fun j hj => by
                obtain ⟨la', lc', e, -, -, hc⟩ := BsRd.cells (HLI.out.below hb6).here
                simp only [Value.slice.injEq, true_and] at e
                obtain ⟨bb, bo, ra, rc, e2, -, h1, -⟩ := hc j hj
                exact ⟨bb, bo, e.1.trans e2, h1⟩
              obtain ⟨gl, hgl2⟩ : ∃ gl, g.list.length = gl := ⟨_, rfl⟩
              have HLB := Lib.hid hlb
              have HI6 := Lib.hid (And.intro hi6 hb6)
              have hgln : (gl : Int) ≤ 1000 := by omega
              rw [hgl2] at k1 hKl hlcap
              have HGL := Lib.hid hgl2
              clear hlb hi6 hb6 hbq hgl hgl2 HL k4
              go_wp2_with fail
              go_loopg [9] gl (fun gk v9 wr => ∃ j : Nat, j ≤ K ∧ gk = gl - j ∧ v9 = .int .i64 (j : Int) ∧ wr = w6)
              case atStart => exact ⟨0, Nat.zero_le _, rfl, rfl, rfl⟩
              case round =>
                obtain ⟨j, hjK, rfl, rfl, rfl⟩ := hrel
                by_cases hgo : ∃ hj : j < g.list.length, g.list[j].base < off
                · obtain ⟨hjx, hlt⟩ := hgo
                  obtain ⟨bb, bo, hla, cb⟩ := HLB.out j hjx
                  subst hla
                  have hi2 := HGO.out j hjx hjK hlt
                  obtain ⟨bv, hbv⟩ : ∃ bv, g.list[j].base = bv := ⟨_, rfl⟩
                  rw [hbv] at cb hlt
                  have hjl : j < gl := by rw [← HGL.out]; exact hjx
                  have j1 : (j : Int) < (gl : Int) := by omega
                  have j2 : (0 : Int) ≤ (j : Int) := by omega
                  clear hbv
                  go_wp2_with fail
                  go_roundg (gl - (j + 1))
                  case measure => omega
                  case rel => exact ⟨j + 1, hi2, rfl, by go_num, rfl⟩
                · have hjp : j = K := HSP.out j hjK (fun hj => Int.not_lt.1 (fun h => hgo ⟨hj, h⟩))
                  have hex : j < gl → ∃ bb bo bv, la = some ⟨bb, bo, none⟩ ∧ wr.cell? ⟨bb, bo + j * 6, none⟩ = some (.int .i64 bv) ∧ off ≤ bv := fun hj => by
                    have hjx : j < g.list.length := by rw [HGL.out]; exact hj
                    obtain ⟨bb, bo, hla, cb⟩ := HLB.out j hjx
                    exact ⟨bb, bo, _, hla, cb, Int.not_lt.1 (fun h => hgo ⟨hjx, h⟩)⟩
                  subst hjp
                  have HEX := Lib.hid hex
                  clear hgo hex
                  go_upto_region 16 with fail
                  go_cut [94] from 76 to 93 (fun v94 wc => v94 = .bool false ∧ wc = wr)
                  case first =>
                    by_cases hin : j < gl
                    · obtain ⟨bb, bo, bv, hla, cb, hnb⟩ := HEX.out hin
                      subst hla
                      have j1 : (j : Int) < (gl : Int) := by omega
                      have j2 : (0 : Int) ≤ (j : Int) := by omega
                      go_wp2_with fail
                      go_meet
                      exact ⟨by simpa using hnb, rfl⟩
                    · have j1 : ¬ (j : Int) < (gl : Int) := by omega
                      go_wp2_with fail
                      go_meet
                      exact ⟨rfl, rfl⟩
                  case rest =>
                    obtain ⟨rfl, hwc⟩ := hcut
                    subst hwc
                    obtain ⟨hi6, hb6⟩ := HI6.out
                    have hlt6 : BsIn wc D (.slice la j lc) (g.list.take j) := (HLI.out.below hb6).take j (by rw [HGL.out]; exact hKl)
                    have hgood : ∀ y ∈ g.list.take j, goodB y = true := fun y hy => HG.out.1.2.2.good y (List.mem_of_mem_take hy)
                    have hfr := Stframed_any hlt6.here hgood (by rw [List.length_take]; omega) ((HD5.out.below hb6).env hE)
                    obtain ⟨sl, hsl6⟩ : ∃ sl, (sgB (g.list.take j)).length = sl := ⟨_, rfl⟩
                    have hsz : (bs (sgB (g.list.take j))).size = sl := by rw [bs_size, hsl6]
                    have hs31 : sl ≤ 2008 * 1000 := by
                      have h1 := sgB_le hgood
                      have h2 : (g.list.take j).length ≤ g.list.length := by rw [List.length_take]; omega
                      rw [HGL.out] at h2
                      omega
                    obtain ⟨fs, hfs⟩ : ∃ fs, bs (sgB (g.list.take j)) = fs := ⟨_, rfl⟩
                    rw [hfs] at hfr hsz
                    have hjl : (j : Int) ≤ (lc : Int) := by omega
                    have HFR := Lib.hid hfr
                    have HI6 := Lib.hid (And.intro hi6 (And.intro hb6 hlt6))
                    have HSL := Lib.hid hsl6
                    clear hfr hi6 hb6 hlt6 hgood hsl6 hfs HLB HGO HSP HEX HLI
                    go_wp2_with fail
                    refine HFR.out.mono ?_
                    rintro _ w7 ⟨rfl, hb7⟩
                    obtain ⟨hi6, hb6, hlt6⟩ := HI6.out
                    obtain ⟨hgo, hglast, hmg, hlv, hmq⟩ := HG.out
                    have hb57 : Below w5.heap.size w5 w7 := below_trans hb6 hb7
                    have hi7 := hi6.below hb7
                    have hd7 := HD5.out.below hb57
                    obtain ⟨gn, hgn⟩ : ∃ gn : Nat, g.base = gn := ⟨g.base.toNat, by omega⟩
                    have hfn : fileS x1 g.base = fileN x1.pre gn := by rw [fileS, hgn]; rfl
                    have hRq : (if (cutT t1 (fileN x1.pre gn) (sl : Int)).2 = 0 then ((cutT t1 (fileN x1.pre gn) (sl : Int)).1, ({ x1 with segs := x1.segs.set q ⟨g.base, g.list.take j⟩ } : St), (0 : Int)) else ((cutT t1 (fileN x1.pre gn) (sl : Int)).1, stDid x1 (cutT t1 (fileN x1.pre gn) (sl : Int)).2, (cutT t1 (fileN x1.pre gn) (sl : Int)).2)) = R := by
                      have h1 := HRQ.out
                      unfold cutLS at h1
                      rw [hglast] at h1
                      simp only at h1
                      rw [HKE.out, hfn, HSL.out] at h1
                      have hq1 : x1.segs.length - 1 = q := by have := hi7.len; have := HQ.out; omega
                      rw [hq1] at h1
                      exact h1
                    obtain ⟨fnm, hfm⟩ : ∃ fnm, fileN x1.pre gn = fnm := ⟨_, rfl⟩
                    have hf := fun W (hW : Below w7.heap.size w7 W) => Stfile_any (n := gn) ((hd7.below hW).env hE) (hd7.below hW).st hd7.ok (by omega)
                    rw [hfm] at hRq hf
                    have hts := fun W (hW : Below w7.heap.size w7 W) => TCut_any (hd7.tp.below hW) fnm (sl : Int)
                    obtain ⟨c, hc⟩ : ∃ c, (cutT t1 fnm (sl : Int)).2 = c := ⟨_, rfl⟩
                    have hnk := cutT_names hd7.names fnm (sl : Int)
                    obtain ⟨t', ht'⟩ : ∃ t', (cutT t1 fnm (sl : Int)).1 = t' := ⟨_, rfl⟩
                    rw [hc, ht'] at hts hRq
                    rw [ht'] at hnk
                    have hcl : ∀ W d, StIn W S5 sb b { x1 with dead := d } (.slice (some ⟨g5, 0, none⟩) x1.segs.length gc5) m D → W.cell? ⟨sb, 0, none⟩ = some (.pointer (some ⟨b, 0, none⟩)) ∧ W.cell? ⟨g5, q * 3, none⟩ = some (.int .i64 (gn : Int)) := fun W d hW => by
                      refine ⟨hW.cells.1, ?_⟩
                      rw [(hW.segk q hmq).1, hmg, hgn]
                    have hdc := fun W (hW : StIn W S5 sb b x1 (.slice (some ⟨g5, 0, none⟩) x1.segs.length gc5) m D) => Stdid_in hW c
                    have k0 := hcl w7 x1.dead hi7
                    have hK : ∀ W, Below w7.heap.size w7 W → W.cell? ⟨sb, 0, none⟩ = some (.pointer (some ⟨b, 0, none⟩)) ∧ W.cell? ⟨g5, q * 3, none⟩ = some (.int .i64 (gn : Int)) := fun W hW => hcl W x1.dead (hi7.below hW)
                    have k5 := k0.1
                    have k6 := k0.2
                    have HF := Lib.hid hf
                    have HTS := Lib.hid hts
                    have HCL := Lib.hid hcl
                    have HDC := Lib.hid hdc
                    have HIN7 := Lib.hid (And.intro hi7 (And.intro trivial hb57))
                    have HNK := Lib.hid hnk
                    have HD7 := Lib.hid hd7
                    have HRQ2 := Lib.hid hRq
                    have HK := Lib.hid hK
                    have HGN := Lib.hid hgn
                    clear hf hts hcl hdc hi7 hnk hd7 hRq hK hfn hfm hc ht' hgn hb57 hi6 hb6 hlt6 hb7 hgo hglast hmg hlv hmq HRQ HFR HI6 HIN HD5 k1 k2 k3
                    go_upto_region 19 with fail
                    go_region_held3 (fun W' => W'.cell? ⟨sb, 0, none⟩ = some (.pointer (some ⟨b, 0, none⟩)) ∧ W'.cell? ⟨g5, q * 3, none⟩ = some (.int .i64 (gn : Int)))
                      (first | with_reducible exact k0 | with_reducible exact HK.out _ (Below.refl _ _).drew | (have hg := hk5; with_reducible exact hk5) | (have hg := hk4; with_reducible exact hk4) | (have hg := hk3; with_reducible exact hk3))
                      (first
                        | (go_at_call 91; refine (HF.out _ ?_).mono ?_; (first | with_reducible exact Below.refl _ _ | with_reducible exact (Below.refl _ _).drew); rintro _ w8 ⟨rfl, hb8⟩; have h03 : Below w7.heap.size w7 w8 := (Below.refl _ w7).drew.trans (hb8.mono (Nat.le_refl _)); have hk3 := HK.out w8 h03)
                        | (go_at_call 66; have hg := h03; refine (HTS.out _ h03).mono ?_; rintro _ w9 ⟨rfl, L4, ht4, hu4, hn4⟩; have hi4 := Sd.tapeIn (HIN7.out.1.below h03) HD7.out.apart hu4; have hk4 := HCL.out _ x1.dead hi4)
                        | (go_at_call 90; have hg := hi4; refine (HDC.out _ hi4).mono ?_; rintro _ w10 ⟨rfl, hi5, hu5⟩; have hk5 := HCL.out _ _ hi5))
                    by_cases hc0 : c = 0
                    case neg =>
                      have hc1 : (c != 0) = true := by simpa using hc0
                      have hfin : SdTo w0 w S sb b mb L R (.returned (.int .i64 c)) w10 := by
                        rw [← HRQ2.out, if_neg hc0]
                        exact SdTo.since HU.out.1 HU.out.2.1 HU.out.2.2 (SdTo.since (Upd.of_below HIN7.out.2.2) (fun _ h => .inl h) (fun _ h => .inl h) (SdTo.acted HD7.out h03 ht4 hu4 hn4 HNK.out ⟨_, _, _, hi5⟩ hu5))
                      have HFIN := Lib.hid hfin
                      clear hfin hi5 hu5 ht4 hu4 hn4 h03 hk3 hk4 hk5 k0 hi4 hb8 hc0
                      go_wp2
                      go_ret
                      exact HFIN.out
                    case pos =>
                    subst hc0
                    obtain ⟨L6, -, hd6, hi6, hu6, hL6⟩ := SyTo.acted HD7.out h03 ht4 hu4 hn4 HNK.out hi5 hu5
                    simp only [stDid_zero] at hd6 hi6
                    obtain ⟨hgo, hglast, hmg, hlv, hmq⟩ := HG.out
                    have hlin : BsIn w10 D (.slice la g.list.length lc) g.list := by
                      have h1 := hi6.lists _ (List.getElem_mem hmq)
                      rw [hmg, hlv] at h1
                      exact h1
                    have hlt10 := hlin.take j (by rw [HGL.out]; exact hKl)
                    have hcn := CloneBs_in hlt10 (by rw [List.length_take]; omega) (fun k hk => hi6.lt k (hi6.apart k hk).1)
                    obtain ⟨k1, k2, k3, k4⟩ := HCQ.out w10 hi6
                    rw [HGL.out] at k1
                    have hch : Chained m[q].2.base (g.list.take j) := by
                      rw [hmg]
                      have h1 := hgo.2.2
                      rw [← List.take_append_drop j g.list] at h1
                      exact h1.left
                    have hfin : ∀ cv w11, BsIn w11 (fun k => D k ∨ (w10.heap.size ≤ k ∧ k < w11.heap.size)) cv (g.list.take j) → Below w10.heap.size w10 w11 →
                        SdTo w0 w S sb b mb L R (.returned (.int .i64 0)) ((w11.setCell ⟨g5, q * 3 + 1, none⟩ cv).setCell ⟨g5, q * 3 + 2, none⟩ (.int .i64 (sl : Int))) := by
                      intro cv w11 h1 h2
                      have h3 := hd6.setList hi6 h2 q hmq h1 hch 0
                      rw [HSL.out, hmg] at h3
                      rw [← HRQ2.out, if_pos rfl]
                      exact SdTo.since HU.out.1 HU.out.2.1 HU.out.2.2 (SdTo.since (Upd.of_below HIN7.out.2.2) (fun _ h => .inl h) (fun _ h => .inl h) (SdTo.since hu6 (fun _ h => .inl h) hL6 h3))
                    have hkk : ∀ w11, Below w10.heap.size w10 w11 → w11.cell? ⟨g5, q * 3 + 1, none⟩ = some (.slice la gl lc) ∧ (∃ v2, w11.cell? ⟨g5, q * 3 + 2, none⟩ = some v2) ∧ ∀ i, w11.frozen? ⟨g5, i, none⟩ = false := fun w11 hb => by
                      have h1 := hi6.below hb
                      obtain ⟨q1, q2, q3, q4⟩ := HCQ.out w11 h1
                      rw [HGL.out] at q1
                      exact ⟨q1, ⟨_, (h1.segk q hmq).2.2.1⟩, q4⟩
                    have HCN := Lib.hid hcn
                    have HFIN := Lib.hid hfin
                    have HKK := Lib.hid hkk
                    clear hcn hfin hkk hch hlt10 hlin hgo hglast hmg hlv hmq hd6 hi6 hu6 hL6 hi5 hu5 ht4 hu4 hn4 h03 hk3 hk4 hk5 k0 k2 k3 k4 k5 k6 hi4 hb8 HF HTS HCL HDC HK HIN7 HNK HD7 HRQ2 HGN HU HG HKE HCQ HSL HGL
                    go_wp2_with fail
                    refine HCN.out.mono ?_
                    rintro _ w11 ⟨cv, rfl, hcv, hb11⟩
                    obtain ⟨ca, cc, rfl, -⟩ := BsRd.cells hcv.here
                    obtain ⟨n1, ⟨v2, n2⟩, n3⟩ := HKK.out w11 hb11
                    have n4 := n3 (q * 3 + 1)
                    have n5 := n3 (q * 3 + 2)
                    have hq9 := HFIN.out _ _ hcv hb11
                    obtain ⟨tl, htl⟩ : ∃ tl, (g.list.take j).length = tl := ⟨_, rfl⟩
                    rw [htl] at hq9 ⊢
                    have HQ9 := Lib.hid hq9
                    clear hq9 hcv hb11 HFIN HKK HCN n3 htl
                    go_wp2_with fail
                    go_ret
                    exact HQ9.out
end Go.Proofs.YtcpaaleogmiamaaGreatDoor
