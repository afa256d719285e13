/- Plain facts of Flock: what the laws ask of one request more. -/
import Derived.Test.YtdchjepahgecgaaGreatDoorMq38
namespace Go.Proofs.YtdchjepahgecgaaGreatDoor
open Go.RowKit Go.Lib

theorem grp_the {L : List Fk} (h : FkUp L) (s : List UInt8) : (grp L s).gen = (theF L s).gen ∧ (grp L s).parts = (theF L s).parts ∧ (grp L s).members = (theF L s).members ∧ (grp L s).points = (theF L s).points := by
  cases hh : hasFk L s with
  | false => rw [grp_no hh, the_no' hh]; exact ⟨rfl, rfl, rfl, rfl⟩
  | true =>
    obtain ⟨y, hy, hn⟩ := hasK_iff.1 hh
    rw [grp_mem h hy hn, (the_mem h hy hn).2]; exact ⟨rfl, rfl, rfl, rfl⟩

theorem chg_at {L M : List Fk} {z : Fk} (hM : FkUp M) (hc : Chg L M z) : hasFk M z.name = true ∧ theF M z.name = z ∧ grp M z.name = z := by
  have hz := (hc z).2 (.inl rfl)
  obtain ⟨h1, h2⟩ := the_mem hM hz rfl
  exact ⟨h1, h2, grp_mem hM hz rfl⟩
theorem chg_off {L M : List Fk} {z : Fk} (hL : FkUp L) (hM : FkUp M) (hc : Chg L M z) {s : List UInt8} (hs : s ≠ z.name) : hasFk M s = hasFk L s ∧ theF M s = theF L s ∧ grp M s = grp L s := by
  cases hh : hasFk L s with
  | true =>
    obtain ⟨y, hy, hn⟩ := hasK_iff.1 hh
    have hy' := (hc y).2 (.inr ⟨hy, by rw [hn]; exact hs⟩)
    obtain ⟨h1, h2⟩ := the_mem hM hy' hn
    exact ⟨h1, by rw [h2, (the_mem hL hy hn).2], by rw [grp_mem hM hy' hn, grp_mem hL hy hn]⟩
  | false =>
    have hh' : hasFk M s = false := by
      cases h2 : hasFk M s with
      | false => rfl
      | true =>
        obtain ⟨y, hy, hn⟩ := hasK_iff.1 h2
        rcases (hc y).1 hy with rfl | ⟨h3, -⟩
        · exact absurd hn.symm hs
        · have : hasFk L s = true := hasK_iff.2 ⟨y, h3, hn⟩
          rw [hh] at this; cases this
    exact ⟨hh', by rw [the_no' hh', the_no' hh], by rw [grp_no hh', grp_no hh]⟩

theorem any_mem {l : List (List UInt8)} {m : List UInt8} : l.any (fun y => decide (y = m)) = decide (m ∈ l) := by
  by_cases h : m ∈ l
  · rw [decide_eq_true h]; exact List.any_eq_true.2 ⟨m, h, by simp⟩
  · rw [decide_eq_false h, List.any_eq_false]
    intro x hx e
    have : x = m := by simpa using e
    exact h (this ▸ hx)

/-- The answer to a request, behind its record. -/
def ansF (L : List Fk) (parts : Int) (q : Rq) : Rs := answerW (nextF L parts q) (decW L parts q, true) q

theorem ans_no {L : List Fk} {parts : Int} {q : Rq} {c : Int} (h : decW L parts q = noW c) (hc : c = 0 → q.kind = 3) : (ansF L parts q).code = c ∧ (c = 0 → (ansF L parts q).gen = (theF (nextF L parts q) q.group).gen) := by
  unfold ansF answerW
  rw [h]
  rw [if_neg (by simp), if_neg (by simp [noW]), if_pos (by simp [noW])]
  by_cases e : c = 0
  · rw [if_pos (show (noW c).code = 0 from e), if_pos (hc e)]
    exact ⟨e.symm, fun _ => rfl⟩
  · rw [if_neg (show ¬ (noW c).code = 0 from e)]
    exact ⟨rfl, fun e' => absurd e' e⟩
theorem ans_turn {L : List Fk} {parts : Int} {q : Rq} {ms : List (List UInt8)} (h : decW L parts q = turnW L parts q.group ms) : (ansF L parts q).code = 0 ∧ (ansF L parts q).gen = (theF (nextF L parts q) q.group).gen := by
  unfold ansF answerW
  rw [h]
  rw [if_neg (by simp), if_pos (by simp [turnW])]
  exact ⟨rfl, rfl⟩
theorem ans_point {L : List Fk} {parts : Int} {q : Rq} (h : decW L parts q = pointW q) : (ansF L parts q).code = 0 := by
  unfold ansF answerW
  rw [h]
  rw [if_neg (by simp), if_neg (by simp [pointW]), if_neg (by simp [pointW]), if_pos (by simp [pointW])]

/-- What FlockTurns asks of one request. -/
structure TurnOk (W V : Fk) (N L : List Fk) (r : Rs) (parts : Int) (q : Rq) : Prop where
  rise : V.gen = W.gen ∨ V.gen = W.gen + 1
  just : decide (V.gen = W.gen + 1) = (decide (r.code = 0) && (decide (q.kind = 4) || (decide (q.kind = 3) && !decide (q.member ∈ W.members))))
  came : r.code = 0 → q.kind = 3 → q.member ∈ V.members ∧ r.gen = V.gen
  went : r.code = 0 → q.kind = 4 → q.member ∉ V.members
  stay : ∀ m ∈ W.members, m ≠ q.member → m ∈ V.members
  still : ∀ y ∈ L, hasFk N y.name = true ∧ (y.name ≠ q.group → grp N y.name = y)
  turned : V.gen = W.gen + 1 → V.parts = parts
  kept : V.gen ≠ W.gen + 1 → V.parts = W.parts
  own : ∀ p, 1 ≤ p → p < V.parts → V.members ≠ [] → (ownerP V.parts V.members p).2 = true ∧ (ownerP V.parts V.members p).1 ∈ V.members

theorem still_of {L M : List Fk} {z : Fk} (hL : FkUp L) (hM : FkUp M) (hc : Chg L M z) (y : Fk) (hy : y ∈ L) : hasFk M y.name = true ∧ (y.name ≠ z.name → grp M y.name = y) := by
  by_cases e : y.name = z.name
  · exact ⟨by rw [e]; exact (chg_at hM hc).1, fun h => absurd e h⟩
  · obtain ⟨h1, -, h3⟩ := chg_off hL hM hc e
    exact ⟨by rw [h1]; exact hasK_iff.2 ⟨y, hy, rfl⟩, fun _ => by rw [h3, grp_mem hL hy rfl]⟩

theorem clamp_in {n : Int} (h : 0 ≤ n ∧ n ≤ 4) : clampP n = n := by unfold clampP; omega

theorem turn_law {L : List Fk} {n : Nat} (h : Inv L n) (hn : n ≤ 1000) {parts : Int} (hp : 0 ≤ parts ∧ parts ≤ 4) (q : Rq) : TurnOk (grp L q.group) (grp (nextF L parts q) q.group) (nextF L parts q) L (ansF L parts q) parts q := by
  have hi := next_inv h hn parts q
  obtain ⟨g1, g2, g3, g4⟩ := grp_the h.ok.up q.group
  obtain ⟨v1, v2, v3, v4⟩ := grp_the hi.ok.up q.group
  have hown : ∀ p, 1 ≤ p → p < (grp (nextF L parts q) q.group).parts → (grp (nextF L parts q) q.group).members ≠ [] → (ownerP (grp (nextF L parts q) q.group).parts (grp (nextF L parts q) q.group).members p).2 = true ∧ (ownerP (grp (nextF L parts q) q.group).parts (grp (nextF L parts q) q.group).members p).1 ∈ (grp (nextF L parts q) q.group).members := by
    intro p p1 p2 hm
    obtain ⟨-, hok, -⟩ := hi.the q.group
    rw [v2, v3] at *
    have := owner_has hok.mem hm p1 p2 hok.parts.2
    exact ⟨this, (owner_in this).2.2.2⟩
  cases brings h hn parts q with
  | none c hd hs hc _ _ =>
    obtain ⟨a1, a2⟩ := ans_no hd (fun e => (hc e).1)
    have eV : grp (nextF L parts q) q.group = grp L q.group := by rw [hs]
    rw [eV] at hown v1 v2 v3 v4 ⊢
    have hne : ¬ (grp L q.group).gen = (grp L q.group).gen + 1 := by omega
    refine ⟨.inl rfl, ?_, fun e k => ⟨?_, ?_⟩, fun e k => ?_, fun m hm _ => hm, fun y hy => ?_, fun e => absurd e hne, fun _ => rfl, hown⟩
    · rw [decide_eq_false hne, a1]
      by_cases e : c = 0
      · obtain ⟨k3, hm⟩ := hc e
        rw [← g3] at hm
        simp [k3, hm]
      · simp [e]
    · rw [a1] at e; rw [g3]; exact (hc e).2
    · rw [a1] at e; rw [a2 e, hs, g1]
    · rw [a1] at e; have := (hc e).1; omega
    · rw [hs]; exact ⟨hasK_iff.2 ⟨y, hy, rfl⟩, fun _ => grp_mem h.ok.up hy rfl⟩
  | join hk hg hm hnom hgd hd hs =>
    obtain ⟨a1, a2⟩ := ans_turn hd
    obtain ⟨c1, c2, c3⟩ := chg_at hi.ok.up hs
    simp only at c1 c2 c3
    rw [c3] at hown ⊢
    rw [← g1]
    refine ⟨.inr rfl, ?_, fun e k => ⟨(mem_join _ _ _).2 (.inl rfl), by rw [a2, c2, g1]⟩, fun e k => by omega, fun m hm _ => (mem_join _ _ _).2 (.inr (by rw [← g3]; exact hm)), still_of h.ok.up hi.ok.up hs, fun _ => clamp_in hp, fun e => absurd rfl e, by rw [g1]; exact hown⟩
    rw [a1, g3]; simp [hk, hnom]
  | leave hk hg hm hin hgd hd hs =>
    obtain ⟨a1, a2⟩ := ans_turn hd
    obtain ⟨c1, c2, c3⟩ := chg_at hi.ok.up hs
    simp only at c1 c2 c3
    obtain ⟨-, hok, -⟩ := h.the q.group
    have hml := mem_left hok.mems.2.1 (hasStr_iff.2 hin)
    rw [c3] at hown ⊢
    rw [← g1]
    refine ⟨.inr rfl, ?_, fun e k => by omega, fun e k hx => ((hml _).1 hx).2 rfl, fun m hm hne => (hml m).2 ⟨by rw [← g3]; exact hm, hne⟩, still_of h.ok.up hi.ok.up hs, fun _ => clamp_in hp, fun e => absurd rfl e, by rw [g1]; exact hown⟩
    rw [a1]; simp [hk]
  | point hk hg hh hmay ho hgen hpp hd hs =>
    have a1 := ans_point hd
    obtain ⟨c1, c2, c3⟩ := chg_at hi.ok.up hs
    simp only at c1 c2 c3
    rw [c3] at hown ⊢
    rw [← g1, ← g2, ← g3]
    have hne : ¬ (grp L q.group).gen = (grp L q.group).gen + 1 := by omega
    refine ⟨.inl rfl, ?_, fun e k => by omega, fun e k => by omega, fun m hm _ => hm, ?_, fun e => absurd e hne, fun _ => rfl, by rw [g2, g3]; exact hown⟩
    · rw [decide_eq_false hne, a1]; simp [hk]
    · exact still_of h.ok.up hi.ok.up hs

/-! FlockCommits -/
theorem idx_off {l : List (Int × Int)} {p : Int} (hpos : ∀ x ∈ l, 0 ≤ x.2) : decide (idxP (fun y => decide (y.1 = p)) l < 0) = decide (¬ 0 ≤ offP l p) ∧ (0 ≤ offP l p → (l.getD (idxP (fun y => decide (y.1 = p)) l).toNat (0, 0)).2 = offP l p) := by
  unfold idxP
  cases hf : l.findIdx? (fun y => decide (y.1 = p)) with
  | none =>
    rw [List.findIdx?_eq_none_iff] at hf
    have e : offP l p = -1 := offP_no fun j hj => hf _ (List.getElem_mem hj)
    rw [e]
    exact ⟨by decide, fun h => absurd h (by decide)⟩
  | some k =>
    rw [List.findIdx?_eq_some_iff_getElem] at hf
    obtain ⟨hk, h1, h2⟩ := hf
    have e : offP l p = l[k].2 := offP_at hk (fun j hj hjk => by have := h2 j hjk; simpa using this) h1
    rw [e]
    have h3 := hpos _ (List.getElem_mem hk)
    refine ⟨?_, fun _ => ?_⟩
    · show decide ((k : Int) < 0) = _
      rw [decide_eq_false (by omega), decide_eq_false (by omega)]
    · simp [List.getD, List.getElem?_eq_getElem hk]

theorem off_pointed {l : List (Int × Int)} (h : PtUp l) (p : Int × Int) (x : Int) : offP (pointedP l p) x = if x = p.1 then p.2 else offP l x := by
  by_cases e : x = p.1
  · rw [if_pos e, e]
    have hm := (mem_pointed h p p).2 (.inl rfl)
    have hup : PtUp (pointedP l p) := by
      unfold pointedP
      split
      · rename_i hh
        obtain ⟨hk, hkp⟩ := hasPt_at h hh
        have h1 : (l.map Prod.fst).Pairwise (fun a b => a < b) := List.pairwise_map.2 h
        have h2 : (l.set (ptAt l p.1) p).map Prod.fst = l.map Prod.fst := by
          rw [List.map_set]
          exact List.ext_getElem (by simp) (fun i h3 h4 => by
            rw [List.getElem_set]
            split
            · rename_i e; subst e; simp [hkp]
            · rfl)
        exact List.pairwise_map.1 (by rw [h2]; exact h1)
      · rename_i hh
        exact up_ins int_tr int_irr (fun a b h1 h2 => by omega) h (by simpa using hh) rfl
    exact off_mem hup hm
  · rw [if_neg e]
    cases hh : hasPt l x with
    | true =>
      obtain ⟨y, hy, hyx⟩ := hasK_iff.1 hh
      have hup : PtUp (pointedP l p) := by
        unfold pointedP
        split
        · rename_i hh
          obtain ⟨hk, hkp⟩ := hasPt_at h hh
          have h1 : (l.map Prod.fst).Pairwise (fun a b => a < b) := List.pairwise_map.2 h
          have h2 : (l.set (ptAt l p.1) p).map Prod.fst = l.map Prod.fst := by
            rw [List.map_set]
            exact List.ext_getElem (by simp) (fun i h3 h4 => by
              rw [List.getElem_set]
              split
              · rename_i e; subst e; simp [hkp]
              · rfl)
          exact List.pairwise_map.1 (by rw [h2]; exact h1)
        · rename_i hh
          exact up_ins int_tr int_irr (fun a b h1 h2 => by omega) h (by simpa using hh) rfl
      subst hyx
      rw [off_mem h hy, off_mem hup ((mem_pointed h p y).2 (.inr ⟨hy, e⟩))]
    | false =>
      have h2 : hasPt (pointedP l p) x = false := by
        cases h3 : hasPt (pointedP l p) x with
        | false => rfl
        | true =>
          obtain ⟨y, hy, hyx⟩ := hasK_iff.1 h3
          rcases (mem_pointed h p y).1 hy with rfl | ⟨h4, -⟩
          · exact absurd hyx.symm e
          · have : hasPt l x = true := hasK_iff.2 ⟨y, h4, hyx⟩
            rw [hh] at this; cases this
      rw [off_no hh, off_no h2]

/-- What FlockCommits asks of one request. -/
structure CommitOk (W V : Fk) (is : Bool) (N : List Fk) (r : Rs) (q : Rq) : Prop where
  other : q.kind ≠ 6 → ∀ p, offP V.points p = offP W.points p
  no : q.kind = 6 → mayCommit W is q = false → r.code = 30
  yes : q.kind = 6 → mayCommit W is q = true → decide (r.code = 0) = offB q.off
  off : q.kind = 6 → ∀ p, offP V.points p = if (decide (r.code = 0) && decide (p = q.part)) = true then q.off else offP W.points p
  look : ∀ p c m k1 k2 k3 k4 ra rl rc, decide ((lookP N ⟨c, m, 7, p, k1, k2, k3, k4, q.group, [], ra, rl, rc⟩).code = 0) = decide (0 ≤ offP V.points p) ∧ (0 ≤ offP V.points p → (lookP N ⟨c, m, 7, p, k1, k2, k3, k4, q.group, [], ra, rl, rc⟩).off = offP V.points p)

theorem may_grp {L : List Fk} (h : FkUp L) (s : List UInt8) (is : Bool) (q : Rq) : mayCommit (grp L s) is q = mayCommit (theF L s) is q := by
  obtain ⟨g1, g2, g3, g4⟩ := grp_the h s
  unfold mayCommit
  rw [g1, g2, g3]

theorem commit_law {L : List Fk} {n : Nat} (h : Inv L n) (hn : n ≤ 1000) (parts : Int) (q : Rq) : CommitOk (grp L q.group) (grp (nextF L parts q) q.group) (hasFk L q.group) (nextF L parts q) (ansF L parts q) q := by
  have hi := next_inv h hn parts q
  obtain ⟨g1, g2, g3, g4⟩ := grp_the h.ok.up q.group
  obtain ⟨v1, v2, v3, v4⟩ := grp_the hi.ok.up q.group
  have hlook : ∀ p c m k1 k2 k3 k4 ra rl rc, decide ((lookP (nextF L parts q) ⟨c, m, 7, p, k1, k2, k3, k4, q.group, [], ra, rl, rc⟩).code = 0) = decide (0 ≤ offP (grp (nextF L parts q) q.group).points p) ∧ (0 ≤ offP (grp (nextF L parts q) q.group).points p → (lookP (nextF L parts q) ⟨c, m, 7, p, k1, k2, k3, k4, q.group, [], ra, rl, rc⟩).off = offP (grp (nextF L parts q) q.group).points p) := by
    intro p c m k1 k2 k3 k4 ra rl rc
    obtain ⟨-, -, -, -, ho, -⟩ := hi.the q.group
    obtain ⟨e1, e2⟩ := idx_off (p := p) ho
    rw [v4]
    unfold lookP
    rw [if_neg (by show ¬ (7 : Int) = 5; decide), if_pos rfl]
    split
    · rename_i hlt
      simp only at hlt
      rw [decide_eq_true hlt] at e1
      have := of_decide_eq_true e1.symm
      exact ⟨by rw [decide_eq_false this]; rfl, fun h => absurd h this⟩
    · rename_i hlt
      simp only at hlt
      rw [decide_eq_false hlt] at e1
      have : 0 ≤ offP (theF (nextF L parts q) q.group).points p := Classical.byContradiction fun hc => by rw [decide_eq_true hc] at e1; cases e1
      exact ⟨by rw [decide_eq_true this]; rfl, fun h => e2 h⟩
  obtain ⟨-, hok, -⟩ := h.the q.group
  cases brings h hn parts q with
  | none c hd hs hc _ h6 =>
    obtain ⟨a1, -⟩ := ans_no hd (fun e => (hc e).1)
    have eV : grp (nextF L parts q) q.group = grp L q.group := by rw [hs]
    rw [eV] at hlook ⊢
    refine ⟨fun _ _ => rfl, fun k hm => ?_, fun k hm => ?_, fun k p => ?_, hlook⟩
    · rw [may_grp h.ok.up] at hm
      rcases h6 k with ⟨h1, -, -⟩ | ⟨-, h2⟩
      · rw [hm] at h1; cases h1
      · rw [a1, h2]
    · rw [may_grp h.ok.up] at hm
      rcases h6 k with ⟨-, h1, h2⟩ | ⟨h1, -⟩
      · rw [a1, h2, h1]; decide
      · rw [hm] at h1; cases h1
    · have : ¬ c = 0 := by rcases h6 k with ⟨-, -, h2⟩ | ⟨-, h2⟩ <;> omega
      rw [a1, if_neg (by simp [this])]
  | join hk hg hm hnom hgd hd hs =>
    obtain ⟨-, -, c3⟩ := chg_at hi.ok.up hs
    simp only at c3
    rw [c3] at hlook ⊢
    exact ⟨fun _ p => by rw [g4], fun k => by omega, fun k => by omega, fun k => by omega, hlook⟩
  | leave hk hg hm hin hgd hd hs =>
    obtain ⟨-, -, c3⟩ := chg_at hi.ok.up hs
    simp only at c3
    rw [c3] at hlook ⊢
    exact ⟨fun _ p => by rw [g4], fun k => by omega, fun k => by omega, fun k => by omega, hlook⟩
  | point hk hg hh hmay ho hgen hpp hd hs =>
    have a1 := ans_point hd
    obtain ⟨-, -, c3⟩ := chg_at hi.ok.up hs
    simp only at c3
    rw [c3] at hlook ⊢
    refine ⟨fun k => absurd hk k, fun k hm => ?_, fun k hm => by rw [a1, ho]; decide, fun k p => ?_, hlook⟩
    · rw [may_grp h.ok.up, hmay] at hm; cases hm
    · rw [a1, g4, off_pointed hok.pts]; simp

/-! FlockSame -/
theorem itoa_len {n : Int} (h : 0 ≤ n ∧ n ≤ 1099511627776) : (itoa n).length ≤ 13 := by
  have hd : ∀ (k u : Nat), u < 10 ^ (k + 1) → (decDigits u).length ≤ k + 1 := by
    intro k
    induction k with
    | zero => intro u hu; rw [decDigits_one (by omega)]; simp
    | succ k ih =>
      intro u hu
      by_cases h10 : u < 10
      · rw [decDigits_one h10]; simp
      · rw [digits_big h10]
        have := ih (u / 10) (by rw [Nat.pow_succ] at hu; omega)
        simp; omega
  rw [itoa, if_neg (by omega)]
  exact hd 12 n.toNat (by omega)
theorem itoa_len4 {n : Int} (h : 0 ≤ n ∧ n ≤ 9999) : (itoa n).length ≤ 4 := by
  have hd : ∀ (k u : Nat), u < 10 ^ (k + 1) → (decDigits u).length ≤ k + 1 := by
    intro k
    induction k with
    | zero => intro u hu; rw [decDigits_one (by omega)]; simp
    | succ k ih =>
      intro u hu
      by_cases h10 : u < 10
      · rw [decDigits_one h10]; simp
      · rw [digits_big h10]
        have := ih (u / 10) (by rw [Nat.pow_succ] at hu; omega)
        simp; omega
  rw [itoa, if_neg (by omega)]
  exact hd 3 n.toNat (by omega)
theorem itoa_len1 {n : Int} (h : 0 ≤ n ∧ n ≤ 9) : (itoa n).length = 1 := by
  rw [itoa, if_neg (by omega), decDigits_one (by omega)]; rfl

theorem dec_len {L : List Fk} {n : Nat} (h : Inv L n) (hn : n ≤ 1000) (parts : Int) (q : Rq) : (decideF L parts q).1.length ≤ 16 ∧ (decideF L parts q).2.length ≤ 64 := by
  obtain ⟨hnm, hok, hg0, hgn, hoff, hyes, hno⟩ := h.the q.group
  have nm : ∀ s, nameB s = true → s.length ≤ 8 := fun s hs => by
    simp only [nameB, Bool.and_eq_true, decide_eq_true_eq] at hs; exact hs.2.1
  have hW : IntKind.i64.wrap ((theF L q.group).gen + 1) = (theF L q.group).gen + 1 := wrap_of ⟨by omega, by omega⟩
  have hno' : ∀ c : Int, 0 ≤ c ∧ c ≤ 9999 → ([110] : List UInt8).length ≤ 16 ∧ (encNo c).length ≤ 64 := by
    intro c hc
    have := itoa_len4 hc
    simp [encNo, encI]; omega
  have hturn : ∀ ms : List (List UInt8), goodB ms = true → (encTurn (IntKind.i64.wrap ((theF L q.group).gen + 1)) (clampP parts) ms).length ≤ 64 := by
    intro ms hms
    obtain ⟨m1, -, m3⟩ := goodB_iff.1 hms
    have h1 := itoa_len4 (n := (theF L q.group).gen + 1) (by omega)
    have h2 := itoa_len1 (n := clampP parts) (by have := clamp_le parts; omega)
    have h3 : ∀ l : List (List UInt8), (∀ m ∈ l, nameB m = true) → ((l.map encX).flatten).length ≤ 10 * l.length := by
      intro l
      induction l with
      | nil => intro _; simp
      | cons x l ih =>
        intro hl
        have e1 := ih (fun m hm => hl m (by simp [hm]))
        have e2 := nm x (hl x (by simp))
        have e3 := itoa_len1 (n := (x.length : Int)) (by omega)
        simp only [List.map_cons, List.flatten_cons, List.length_append, encX, List.length_cons, e3]
        omega
    have h4 := h3 ms m1
    rw [hW]
    simp only [encTurn, encI, List.flatten_cons, List.flatten_nil, List.length_cons, List.length_append, List.length_nil]
    omega
  unfold decideF commitP
  split
  · split
    · rename_i hm
      simp only [mayCommit, Bool.and_eq_true, decide_eq_true_eq] at hm
      have hin := owner_in hm.2.2.1
      have hg := nm _ (hyes hm.1).1
      split
      · rename_i ho
        simp only [offB, Bool.and_eq_true, decide_eq_true_eq] at ho
        have h1 := itoa_len1 (n := q.part) (by omega)
        have h2 := itoa_len ho
        have h3 := itoa_len4 (n := q.gen) (by omega)
        simp only [encPoint, encI, List.length_cons, List.length_append, List.flatten_cons, List.flatten_nil, List.length_nil]
        omega
      · exact hno' 1 (by omega)
    · exact hno' 30 (by omega)
  · split
    · exact hno' 1 (by omega)
    · rename_i hbad
      obtain ⟨-, hnames⟩ := not_or.1 hbad
      have hnames' : nameB q.group = true ∧ nameB q.member = true := by simpa using hnames
      have hg := nm _ hnames'.1
      split
      · split
        · exact hno' 31 (by omega)
        · exact ⟨by simp; omega, hturn _ (good_left hok.mem _)⟩
      · split
        · exact hno' 0 (by omega)
        · rename_i hs
          split
          · exact hno' 32 (by omega)
          · rename_i hf
            exact ⟨by simp; omega, hturn _ (good_join hok.mem hnames'.2 (by simpa using hs) (by omega))⟩

/-- Records of other things change nothing. -/
theorem junk_same (L : List Fk) (off : Int) (k v : List UInt8) (gone : Bool) : applyR L ⟨off, 120 :: k, v, gone⟩ = L := by
  have e : (readP (120 :: k) v gone).1 = .zero := by
    cases gone with
    | true => rfl
    | false =>
      have e2 : ∀ st, rdBody 120 k st = (.zero, false, st) := fun st => by unfold rdBody; rw [if_neg (by decide), if_neg (by decide), if_neg (by decide)]
      simp only [readP, Bool.false_eq_true, if_false, e2, Bool.false_and]
  rw [applyR, e, applyW, if_neg (by simp [turns, Wd.zero]), if_neg (by simp [points, Wd.zero])]

/-! FlockLooks -/
def twoN (L : List Fk) : Prop := ∀ y ∈ L, y.name = [103] ∨ y.name = [104]
theorem two_len {L : List Fk} (h : FkUp L) (h2 : twoN L) : L.length < 4 := by
  have key : ∀ x y z : List UInt8, (x = [103] ∨ x = [104]) → (y = [103] ∨ y = [104]) → (z = [103] ∨ z = [104]) → x < y → y < z → False := by
    rintro x y z (rfl | rfl) (rfl | rfl) (rfl | rfl) h1 h2 <;> first | exact absurd h1 (by decide) | exact absurd h2 (by decide)
  match L, h, h2 with
  | [], _, _ => simp
  | [_], _, _ => simp
  | [_, _], _, _ => simp
  | x :: y :: z :: l, h, h2 =>
    have h3 := List.pairwise_cons.1 h
    have h4 := List.pairwise_cons.1 h3.2
    exact absurd (key x.name y.name z.name (h2 x (by simp)) (h2 y (by simp)) (h2 z (by simp)) (h3.1 y (by simp)) (h4.1 z (by simp))) id

theorem next_names {L : List Fk} (_h : FkUp L) (h2 : twoN L) {parts : Int} {q : Rq} {n : Nat} (hi : Inv L n) (hn : n ≤ 1000) (hq : q.group = [103] ∨ q.group = [104]) : twoN (nextF L parts q) := by
  have key : ∀ z : Fk, Chg L (nextF L parts q) z → z.name = q.group → twoN (nextF L parts q) := by
    intro z hc hz y hy
    rcases (hc y).1 hy with rfl | ⟨h3, -⟩
    · rw [hz]; exact hq
    · exact h2 y h3
  cases brings hi hn parts q with
  | none c hd hs hc _ _ => rw [hs]; exact h2
  | join hk hg hm hnom hgd hd hs => exact key _ hs rfl
  | leave hk hg hm hin hgd hd hs => exact key _ hs rfl
  | point hk hg hh hmay ho hgen hpp hd hs => exact key _ hs rfl

theorem dec_eq {L M : List Fk} (h1 : L.length < 4) (h2 : M.length < 4) {q : Rq} (hh : hasFk L q.group = hasFk M q.group) (ht : theF L q.group = theF M q.group) (parts : Int) : decW L parts q = decW M parts q := by
  have e1 : (hasFk L q.group = false ∧ 4 ≤ L.length) = (hasFk M q.group = false ∧ 4 ≤ M.length) := by
    refine propext ⟨fun h => ?_, fun h => ?_⟩ <;> exact absurd h.2 (by omega)
  unfold decW turnW
  rw [hh] at e1 ⊢
  rw [ht]
  simp only [e1]

theorem next_eq {L M : List Fk} {n m : Nat} (hL : Inv L n) (hn : n ≤ 1000) (hM : Inv M m) (hm : m ≤ 1000) (h1 : L.length < 4) (h2 : M.length < 4) {q : Rq} (hh : hasFk L q.group = hasFk M q.group) (ht : theF L q.group = theF M q.group) (parts : Int) :
    hasFk (nextF L parts q) q.group = hasFk (nextF M parts q) q.group ∧ theF (nextF L parts q) q.group = theF (nextF M parts q) q.group := by
  have hd := dec_eq h1 h2 hh ht parts
  have iL := next_inv hL hn parts q
  have iM := next_inv hM hm parts q
  cases brings hL hn parts q with
  | none c d s hc a b =>
    have sM : nextF M parts q = M := by rw [nextF, ← hd, d, no_app]
    rw [s, sM]; exact ⟨hh, ht⟩
  | join hk hg hmm hnom hgd d s =>
    obtain ⟨c1, c2, -⟩ := chg_at iL.ok.up s
    cases brings hM hm parts q with
    | none c d' s' hc a b => rw [← hd, d] at d'; exact absurd (congrArg Wd.kind d') (by simp [turnW, noW])
    | join hk' hg' hmm' hnom' hgd' d' s' =>
      obtain ⟨c1', c2', -⟩ := chg_at iM.ok.up s'
      simp only at c1 c2 c1' c2'
      rw [c1, c2, c1', c2', ht]; exact ⟨rfl, rfl⟩
    | leave hk' hg' hmm' hin' hgd' d' s' => omega
    | point hk' hg' hh' hmay' ho' hgen' hpp' d' s' => omega
  | leave hk hg hmm hin hgd d s =>
    obtain ⟨c1, c2, -⟩ := chg_at iL.ok.up s
    cases brings hM hm parts q with
    | none c d' s' hc a b => rw [← hd, d] at d'; exact absurd (congrArg Wd.kind d') (by simp [turnW, noW])
    | join hk' hg' hmm' hnom' hgd' d' s' => omega
    | leave hk' hg' hmm' hin' hgd' d' s' =>
      obtain ⟨c1', c2', -⟩ := chg_at iM.ok.up s'
      simp only at c1 c2 c1' c2'
      rw [c1, c2, c1', c2', ht]; exact ⟨rfl, rfl⟩
    | point hk' hg' hh' hmay' ho' hgen' hpp' d' s' => omega
  | point hk hg hh0 hmay ho hgen hpp d s =>
    obtain ⟨c1, c2, -⟩ := chg_at iL.ok.up s
    cases brings hM hm parts q with
    | none c d' s' hc a b => rw [← hd, d] at d'; exact absurd (congrArg Wd.kind d') (by simp [pointW, noW])
    | join hk' hg' hmm' hnom' hgd' d' s' => omega
    | leave hk' hg' hmm' hin' hgd' d' s' => omega
    | point hk' hg' hh' hmay' ho' hgen' hpp' d' s' =>
      obtain ⟨c1', c2', -⟩ := chg_at iM.ok.up s'
      simp only at c1 c2 c1' c2'
      rw [c1, c2, c1', c2', ht]; exact ⟨rfl, rfl⟩

theorem next_off {L : List Fk} {n : Nat} (hL : Inv L n) (hn : n ≤ 1000) {parts : Int} {q : Rq} {s : List UInt8} (hs : s ≠ q.group) : hasFk (nextF L parts q) s = hasFk L s ∧ theF (nextF L parts q) s = theF L s := by
  have iL := next_inv hL hn parts q
  cases brings hL hn parts q with
  | none c d e hc a b => rw [e]; exact ⟨rfl, rfl⟩
  | join hk hg hmm hnom hgd d e => obtain ⟨h1, h2, -⟩ := chg_off hL.ok.up iL.ok.up e hs; exact ⟨h1, h2⟩
  | leave hk hg hmm hin hgd d e => obtain ⟨h1, h2, -⟩ := chg_off hL.ok.up iL.ok.up e hs; exact ⟨h1, h2⟩
  | point hk hg hh0 hmay ho hgen hpp d e => obtain ⟨h1, h2, -⟩ := chg_off hL.ok.up iL.ok.up e hs; exact ⟨h1, h2⟩

theorem look_eq {L M : List Fk} {q : Rq} (ht : theF L q.group = theF M q.group) : lookP L q = lookP M q := by
  unfold lookP ownedP
  rw [ht]
end Go.Proofs.YtdchjepahgecgaaGreatDoor
