/- A master that hears of nodes, in plain words. -/
import Derived.Test.YtcpaaleogmiamaaGreatDoorMh34
import Derived.Test.YtcpaaleogmiamaaGreatDoorMh35
namespace Go.Proofs.YtcpaaleogmiamaaGreatDoor
open Go.RowKit

def missG (M : List (Int × Int)) (n : Int) : Int := ((M.find? (fun x => x.1 == n)).map (·.2)).getD 0
def missP : List (Int × Int) → Int → Int → List (Int × Int)
  | [], k, v => [(k, v)]
  | p :: m, k, v => if p.1 == k then (k, v) :: m else p :: missP m k v

/-- The partitions are joined, one by one. -/
def joinsR (life node : Int) : List Int → Tp → Pl → Bool → (Tp × Pl × Bool × Int) × List Pm
  | [], t, p, d => ((t, p, d, 0), [])
  | i :: r, t, p, d =>
    if (doR t p life d ⟨5, node, i, 0⟩).2.2.2 ≠ 0 ∧ (doR t p life d ⟨5, node, i, 0⟩).2.2.2 ≠ 21 ∧ (doR t p life d ⟨5, node, i, 0⟩).2.2.2 ≠ 32 then (doR t p life d ⟨5, node, i, 0⟩, [])
    else ((joinsR life node r (doR t p life d ⟨5, node, i, 0⟩).1 (doR t p life d ⟨5, node, i, 0⟩).2.1 (doR t p life d ⟨5, node, i, 0⟩).2.2.1).1,
      doE t p life d ⟨5, node, i, 0⟩ ++ (joinsR life node r (doR t p life d ⟨5, node, i, 0⟩).1 (doR t p life d ⟨5, node, i, 0⟩).2.1 (doR t p life d ⟨5, node, i, 0⟩).2.2.1).2)

/-- A node's own messages. -/
def ownE (q : Pl) (node : Int) : List Pm := (List.range q.parts.length).map (fun (i : Nat) => ⟨(i : Int), (atP q.parts (i : Int)).epoch, (atP q.parts (i : Int)).learner, node, q.lives.length⟩)

/-- A tick's deaths, one by one. -/
def deadsR (life : Int) (M : List (Int × Int)) : List (Int × Int) → Tp → Pl → Bool → (Tp × Pl × Bool × Int) × List Pm
  | [], t, p, d => ((t, p, d, 0), [])
  | l :: r, t, p, d =>
    if missG M l.1 ≤ 4 then deadsR life M r t p d
    else if (doR t p life d ⟨2, l.1, 0, 0⟩).2.2.2 ≠ 0 ∧ (doR t p life d ⟨2, l.1, 0, 0⟩).2.2.2 ≠ 21 then (doR t p life d ⟨2, l.1, 0, 0⟩, doE t p life d ⟨2, l.1, 0, 0⟩)
    else ((deadsR life M r (doR t p life d ⟨2, l.1, 0, 0⟩).1 (doR t p life d ⟨2, l.1, 0, 0⟩).2.1 (doR t p life d ⟨2, l.1, 0, 0⟩).2.2.1).1,
      doE t p life d ⟨2, l.1, 0, 0⟩ ++ (deadsR life M r (doR t p life d ⟨2, l.1, 0, 0⟩).1 (doR t p life d ⟨2, l.1, 0, 0⟩).2.1 (doR t p life d ⟨2, l.1, 0, 0⟩).2.2.1).2)

/-- The master's tape holds its plan's events; no loss of power is to come. -/
structure Calm (P0 : Pl) (t : Tp) (p : Pl) (n : Nat) : Prop where
  disk : ∃ es, Disk t es ∧ foldE P0 es = some p ∧ es.length ≤ n
  armed : t.armed = 0

theorem Calm.mono {P0 : Pl} {t : Tp} {p : Pl} {n m : Nat} (h : Calm P0 t p n) (hm : n ≤ m) : Calm P0 t p m := by
  obtain ⟨es, h1, h2, h3⟩ := h.disk
  exact ⟨⟨es, h1, h2, by omega⟩, h.armed⟩
theorem Calm.act {P0 : Pl} {t : Tp} {p : Pl} {n : Nat} (h : Calm P0 t p n) (hn : n ≤ 500) (x : Event) :
    ((applyP p x).2.2 ≠ 0 ∧ doR t p t.life false x = (t, p, false, (applyP p x).2.2)) ∨
    ((applyP p x).2.2 = 0 ∧ ∃ t', doR t p t.life false x = (t', (applyP p x).1, false, 0) ∧ Calm P0 t' (applyP p x).1 (n + 1) ∧ t'.life = t.life) := by
  obtain ⟨es, h1, h2, h3⟩ := h.disk
  rcases doR_disk h1 h2 (by omega) x with ⟨a, b⟩ | ⟨a, t', b, c, d, e⟩ | ⟨a, t', b, c, d, e⟩
  · exact .inl ⟨a, b⟩
  · exact .inr ⟨a, t', b, ⟨⟨es ++ [x], c, foldE_snoc x es h2 a, by simp; omega⟩, e h.armed⟩, d⟩
  · exact absurd h.armed e

theorem foldE_ep : ∀ (es : List Event) {p q : Pl} {N : Int}, 1 ≤ N → EpLe p N → foldE p es = some q → EpLe q (N + es.length)
  | [], p, q, N, h1, h, hf => by
    simp only [foldE, Option.some.injEq] at hf
    subst hf
    simpa using h
  | x :: es, p, q, N, h1, h, hf => by
    simp only [foldE] at hf
    split at hf
    · rename_i h2
      have h3 := applyP_ep (q := (applyP p x).1) (t := (applyP p x).2.1) (by rw [← h2]) h1 h
      have := foldE_ep es (by omega) h3 hf
      have e : N + ((x :: es).length : Int) = N + 1 + (es.length : Int) := by simp only [List.length_cons]; omega
      rw [e]
      exact this
    · cases hf
theorem Calm.ep {P0 : Pl} {t : Tp} {p : Pl} {n : Nat} (h : Calm P0 t p n) (h0 : EpLe P0 1) : EpLe p (1 + (n : Int)) := by
  obtain ⟨es, h1, h2, h3⟩ := h.disk
  have := foldE_ep es (by omega) h0 h2
  intro y hy
  have := this y hy
  omega

/-- A node has no part in a place. -/
def NotIn (n : Int) (y : Pt) : Prop := ¬ (n ∈ y.chain ∧ 1 < y.chain.length) ∧ y.learner ≠ n
theorem notIn_dead {m n : Int} (hn : 1 ≤ n) {y : Pt} (h : NotIn n y) : NotIn n (deadX m y) := by
  refine ⟨fun hk => h.1 ⟨(deadX_chain m y).subset hk.1, ?_⟩, ?_⟩
  · have := (deadX_chain m y).length_le
    omega
  · unfold deadX
    split
    · simp only; omega
    · split
      · exact h.2
      · exact h.2
theorem notIn_self {n N : Int} {y : Pt} (h : isPlaceB y N = true) (hn : 1 ≤ n) : NotIn n (deadX n y) := by
  have := left_dead (n := n) h hn
  exact ⟨this.1, this.2.1⟩

/-- The same city: nodes, copies, lives, so many places. -/
structure SameC (p q : Pl) : Prop where
  nodes : q.nodes = p.nodes
  copies : q.copies = p.copies
  lives : q.lives = p.lives
  parts : q.parts.length = p.parts.length
theorem SameC.refl (p : Pl) : SameC p p := ⟨rfl, rfl, rfl, rfl⟩
theorem SameC.trans {p q r : Pl} (h : SameC p q) (k : SameC q r) : SameC p r := ⟨k.nodes.trans h.nodes, k.copies.trans h.copies, k.lives.trans h.lives, k.parts.trans h.parts⟩

theorem applyP_deadX {p : Pl} {n : Int} (hg : goodP p = true) (hn : 1 ≤ n ∧ n ≤ p.nodes) (hep : EpLe p 1073741823) :
    (∃ q t, applyP p ⟨2, n, 0, 0⟩ = (q, t, 0) ∧ SameC p q ∧ ∀ k (hk : k < p.parts.length) (hk' : k < q.parts.length), q.parts[k].chain = (deadX n p.parts[k]).chain ∧ q.parts[k].learner = (deadX n p.parts[k]).learner) ∨
    ((applyP p ⟨2, n, 0, 0⟩).2.2 = 21 ∧ ∀ k (hk : k < p.parts.length), deadX n p.parts[k] = p.parts[k]) := by
  obtain ⟨g1, g2, g3, g4, g5, g6⟩ := goodP_iff.1 hg
  have hc : canB p ⟨2, n, 0, 0⟩ = true := by
    refine canB_iff.2 ⟨hg, ?_, by simp only; omega, by simp only; omega⟩
    simp [eventB, inB_iff]; omega
  by_cases h2 : placesB (deadB n) p.parts = []
  · right
    refine ⟨?_, fun k hk => deadX_same (placesB_nil.1 h2 _ (List.getElem_mem hk))⟩
    rw [applyP_err hc (q := p) (T := []) (e := 21) (by simp [changeP, h2]) (by decide)]
  · left
    have hR : changeP p ⟨2, n, 0, 0⟩ = (⟨p.nodes, p.copies, p.parts.map (deadX n), p.lives⟩, placesB (deadB n) p.parts, 0) := by simp [changeP, h2]
    obtain ⟨Q, h3, h4, h5⟩ := applyP_of_change hc hR (by simp) (by
      intro y hy
      obtain ⟨z, hz, rfl⟩ := List.mem_map.1 hy
      rw [deadX_epoch]; exact hep z hz)
    refine ⟨_, _, h3, ⟨rfl, rfl, rfl, by simpa using h4⟩, fun k hk hk' => ?_⟩
    have h6 := h5 k (by simpa using hk) hk'
    simp only [List.getElem_map] at h6
    simp only
    rw [h6]
    split
    · exact ⟨rfl, rfl⟩
    · exact ⟨rfl, rfl⟩

theorem applyP_join {p : Pl} {n : Int} (hg : goodP p = true) (hn : 1 ≤ n ∧ n ≤ p.nodes) (hep : EpLe p 1073741823) (hl : lifeP p.lives n ≠ 0) (k : Nat) (hk : k < p.parts.length) (hw : wantP p n p.parts[k] = true) :
    ∃ q, applyP p ⟨5, n, k, 0⟩ = (q, [(k : Int)], 0) ∧ SameC p q ∧ (∀ h : k < q.parts.length, q.parts[k].learner = n ∧ q.parts[k].chain = p.parts[k].chain) ∧
      ∀ i (hi : i < p.parts.length) (hi' : i < q.parts.length), i ≠ k → q.parts[i] = p.parts[i] := by
  obtain ⟨g1, g2, g3, g4, g5, g6⟩ := goodP_iff.1 hg
  have hk4 : (k : Int) ≤ 3 := by omega
  have hat : atP p.parts (k : Int) = p.parts[k] := atP_lt hk
  have hc : canB p ⟨5, n, k, 0⟩ = true := by
    refine canB_iff.2 ⟨hg, ?_, by simp only; omega, by simp only; omega⟩
    simp [eventB, inB_iff]; omega
  have hmem : (wantsP p n).contains (k : Int) = true := by
    have : (k : Int) ∈ placesB (wantP p n) p.parts := (mem_placesB hk).2 hw
    simpa [wantsP] using this
  have hR : changeP p ⟨5, n, k, 0⟩ = (⟨p.nodes, p.copies, p.parts.set k ⟨p.parts[k].epoch, p.parts[k].chain, n⟩, p.lives⟩, [(k : Int)], 0) := by
    unfold changeP
    rw [if_neg (by simp), if_neg (by simp), if_neg (by simp), if_pos rfl, if_neg (by rintro (h | h); exact hl h; rw [hmem] at h; cases h)]
    simp [hat]
  have hepk := hep _ (List.getElem_mem hk)
  obtain ⟨Q, h3, h4, h5⟩ := applyP_of_change hc hR (by simp) (set_ep (fun y hy => by have := hep y hy; omega) _ _ (by simp only; omega))
  simp only [List.length_set] at h4 h5
  have hkQ : k < Q.length := by omega
  refine ⟨_, h3, ⟨rfl, rfl, rfl, h4⟩, fun h => ?_, fun i hi hi' hne => ?_⟩
  · simp only
    rw [h5 k hk hkQ]; simp [incr]
  · simp only at hi' ⊢
    rw [h5 i hi hi']
    have : ¬ (i : Int) = (k : Int) := by omega
    simp [this, List.getElem_set_ne (Ne.symm hne)]

theorem deads_calm {P0 : Pl} (h0 : EpLe P0 1) (M : List (Int × Int)) : ∀ (ls : List (Int × Int)) {t : Tp} {p : Pl} {n : Nat}, Calm P0 t p n → n + ls.length ≤ 500 → goodP p = true → (∀ l ∈ ls, 1 ≤ l.1 ∧ l.1 ≤ p.nodes) →
    ∃ t' p' E, deadsR t.life M ls t p false = ((t', p', false, 0), E) ∧ Calm P0 t' p' (n + ls.length) ∧ t'.life = t.life ∧ SameC p p' ∧ goodP p' = true ∧
      (∀ m, 1 ≤ m → (∀ y ∈ p.parts, NotIn m y) → ∀ y ∈ p'.parts, NotIn m y) ∧ ∀ l ∈ ls, 4 < missG M l.1 → ∀ y ∈ p'.parts, NotIn l.1 y
  | [], t, p, n, hc, _, hg, _ => ⟨t, p, [], rfl, hc, rfl, .refl _, hg, fun _ _ h => h, by simp⟩
  | l :: ls, t, p, n, hc, hn, hg, hl => by
    simp only [List.length_cons] at hn
    by_cases hm : missG M l.1 ≤ 4
    · obtain ⟨t', p', E, a, b, c, d, e, f, g⟩ := deads_calm h0 M ls hc (by omega) hg (fun x hx => hl x (by simp [hx]))
      refine ⟨t', p', E, ?_, b.mono (by simp only [List.length_cons]; omega), c, d, e, f, fun x hx hx4 => ?_⟩
      · rw [deadsR, if_pos hm]; exact a
      · rcases List.mem_cons.1 hx with rfl | hx
        · omega
        · exact g x hx hx4
    · have hl1 := hl l (by simp)
      have hep := hc.ep h0
      have hep2 : EpLe p 1073741823 := fun y hy => by have := hep y hy; omega
      obtain ⟨-, -, -, g4, -⟩ := goodP_iff.1 hg
      -- what one death leaves
      have one : ∃ t1 p1, doR t p t.life false ⟨2, l.1, 0, 0⟩ = (t1, p1, false, (applyP p ⟨2, l.1, 0, 0⟩).2.2) ∧ ((applyP p ⟨2, l.1, 0, 0⟩).2.2 = 0 ∨ (applyP p ⟨2, l.1, 0, 0⟩).2.2 = 21) ∧ Calm P0 t1 p1 (n + 1) ∧ t1.life = t.life ∧ SameC p p1 ∧ goodP p1 = true ∧
          (∀ m, 1 ≤ m → (∀ y ∈ p.parts, NotIn m y) → ∀ y ∈ p1.parts, NotIn m y) ∧ ∀ y ∈ p1.parts, NotIn l.1 y := by
        rcases applyP_deadX hg hl1 hep2 with ⟨q, T, h1, h2, h3⟩ | ⟨h1, h2⟩
        · rcases hc.act (by omega) ⟨2, l.1, 0, 0⟩ with ⟨a, b⟩ | ⟨a, t', b, c, d⟩
          · rw [h1] at a; exact absurd rfl a
          · rw [h1] at b c ⊢
            refine ⟨t', q, b, .inl rfl, c, d, h2, applyP_good h1, fun m hm1 hall y hy => ?_, fun y hy => ?_⟩
            · obtain ⟨k, hk, rfl⟩ := List.mem_iff_getElem.1 hy
              have hk2 : k < p.parts.length := by rw [← h2.parts]; exact hk
              obtain ⟨e1, e2⟩ := h3 k hk2 hk
              have := notIn_dead (m := l.1) hm1 (hall _ (List.getElem_mem hk2))
              unfold NotIn at this ⊢
              rw [e1, e2]; exact this
            · obtain ⟨k, hk, rfl⟩ := List.mem_iff_getElem.1 hy
              have hk2 : k < p.parts.length := by rw [← h2.parts]; exact hk
              obtain ⟨e1, e2⟩ := h3 k hk2 hk
              have := notIn_self (g4 _ (List.getElem_mem hk2)) hl1.1
              unfold NotIn at this ⊢
              rw [e1, e2]; exact this
        · rcases hc.act (by omega) ⟨2, l.1, 0, 0⟩ with ⟨a, b⟩ | ⟨a, t', b, c, d⟩
          · refine ⟨t, p, b, .inr h1, hc.mono (by omega), rfl, .refl _, hg, fun m _ h => h, fun y hy => ?_⟩
            obtain ⟨k, hk, rfl⟩ := List.mem_iff_getElem.1 hy
            have := notIn_self (g4 _ (List.getElem_mem hk)) hl1.1
            rw [h2 k hk] at this
            exact this
          · rw [h1] at a; cases a
      obtain ⟨t1, p1, o1, o2, o3, o4, o5, o6, o7, o8⟩ := one
      obtain ⟨t', p', E, a, b, c, d, e, f, g⟩ := deads_calm h0 M ls (t := t1) (p := p1) o3 (by omega) o6 (fun x hx => by rw [o5.nodes]; exact hl x (by simp [hx]))
      rw [o4] at a c
      refine ⟨t', p', doE t p t.life false ⟨2, l.1, 0, 0⟩ ++ E, ?_, b.mono (by simp only [List.length_cons]; omega), c, o5.trans d, e, fun m hm1 hall => f m hm1 (o7 m hm1 hall), fun x hx hx4 => ?_⟩
      · rw [deadsR, if_neg hm, o1]
        simp only
        rw [if_neg (by rcases o2 with h | h <;> rw [h] <;> decide), a]
      · rcases List.mem_cons.1 hx with rfl | hx
        · exact f _ hl1.1 o8
        · exact g x hx hx4

theorem joins_calm {P0 : Pl} (h0 : EpLe P0 1) (nd : Int) : ∀ (ks : List Int) {t : Tp} {p : Pl} {n : Nat}, Calm P0 t p n → n + ks.length ≤ 500 → goodP p = true → (1 ≤ nd ∧ nd ≤ p.nodes) → lifeP p.lives nd ≠ 0 → ks.Nodup →
    (∀ k ∈ ks, ∃ j : Nat, k = (j : Int) ∧ ∃ hj : j < p.parts.length, wantP p nd p.parts[j] = true) →
    ∃ t' p' E, joinsR t.life nd ks t p false = ((t', p', false, 0), E) ∧ Calm P0 t' p' (n + ks.length) ∧ t'.life = t.life ∧ SameC p p' ∧ goodP p' = true ∧
      ∀ j (hj : j < p.parts.length) (hj' : j < p'.parts.length), p'.parts[j].chain = p.parts[j].chain ∧ (((j : Int) ∈ ks ∧ p'.parts[j].learner = nd) ∨ ((j : Int) ∉ ks ∧ p'.parts[j] = p.parts[j]))
  | [], t, p, n, hc, _, hg, _, _, _, _ => ⟨t, p, [], rfl, hc, rfl, .refl _, hg, fun j hj hj' => ⟨rfl, .inr ⟨by simp, rfl⟩⟩⟩
  | k :: ks, t, p, n, hc, hn, hg, hnd, hl, hnod, hks => by
    simp only [List.length_cons] at hn
    obtain ⟨i, rfl, hi, hw⟩ := hks k (by simp)
    have hnod' := List.nodup_cons.1 hnod
    have hep := hc.ep h0
    have hep2 : EpLe p 1073741823 := fun y hy => by have := hep y hy; omega
    obtain ⟨q, h1, h2, h3, h4⟩ := applyP_join hg hnd hep2 hl i hi hw
    have hgq := applyP_good h1
    rcases hc.act (by omega) ⟨5, nd, (i : Int), 0⟩ with ⟨a, b⟩ | ⟨a, t1, b, c, d⟩
    · rw [h1] at a; exact absurd rfl a
    · rw [h1] at b c
      simp only at b c
      have hiq : i < q.parts.length := by rw [h2.parts]; exact hi
      obtain ⟨t', p', E, e1, e2, e3, e4, e5, e6⟩ := joins_calm h0 nd ks (t := t1) (p := q) c (by omega) hgq (by rw [h2.nodes]; exact hnd) (by rw [h2.lives]; exact hl) hnod'.2 (fun k hk => by
        obtain ⟨j, rfl, hj, hwj⟩ := hks k (by simp [hk])
        have hne : j ≠ i := fun e => hnod'.1 (by rw [← e]; exact hk)
        have hjq : j < q.parts.length := by rw [h2.parts]; exact hj
        refine ⟨j, rfl, hjq, ?_⟩
        rw [h4 j hj hjq hne]
        unfold wantP at hwj ⊢
        rw [h2.nodes, h2.copies]
        exact hwj)
      rw [d] at e1 e3
      refine ⟨t', p', doE t p t.life false ⟨5, nd, (i : Int), 0⟩ ++ E, ?_, e2.mono (by simp only [List.length_cons]; omega), e3, h2.trans e4, e5, fun j hj hj' => ?_⟩
      · rw [joinsR, b]
        simp only
        rw [if_neg (by rintro ⟨h, -⟩; exact h rfl), e1]
      · have hjq : j < q.parts.length := by rw [h2.parts]; exact hj
        obtain ⟨f1, f2⟩ := e6 j hjq hj'
        by_cases hji : j = i
        · subst hji
          obtain ⟨g1, g2⟩ := h3 hjq
          refine ⟨by rw [f1, g2], .inl ⟨by simp, ?_⟩⟩
          rcases f2 with ⟨-, f2⟩ | ⟨-, f2⟩
          · exact f2
          · rw [f2]; exact g1
        · have hq := h4 j hj hjq hji
          refine ⟨by rw [f1, hq], ?_⟩
          rcases f2 with ⟨f3, f2⟩ | ⟨f3, f2⟩
          · exact .inl ⟨by simp [f3], f2⟩
          · refine .inr ⟨?_, by rw [f2, hq]⟩
            simp only [List.mem_cons, not_or]
            exact ⟨by omega, f3⟩

theorem wants_of {p : Pl} {n : Int} : (wantsP p n).Nodup ∧ ∀ k ∈ wantsP p n, ∃ j : Nat, k = (j : Int) ∧ ∃ hj : j < p.parts.length, wantP p n p.parts[j] = true := by
  refine ⟨placesB_nodup _ _, fun k hk => ?_⟩
  obtain ⟨h0, h1⟩ := placesB_range hk
  obtain ⟨j, rfl⟩ := Int.eq_ofNat_of_zero_le h0
  have hj : j < p.parts.length := by omega
  exact ⟨j, rfl, hj, (mem_placesB hj).1 hk⟩

/-- Behind its joins a node wants nothing. -/
theorem wants_none {p p' : Pl} {n : Int} (hn : 1 ≤ n) (hs : SameC p p') (h : ∀ j (hj : j < p.parts.length) (hj' : j < p'.parts.length), p'.parts[j].chain = p.parts[j].chain ∧ (((j : Int) ∈ wantsP p n ∧ p'.parts[j].learner = n) ∨ ((j : Int) ∉ wantsP p n ∧ p'.parts[j] = p.parts[j]))) : wantsP p' n = [] := by
  refine placesB_nil.2 (fun y hy => ?_)
  obtain ⟨j, hj', rfl⟩ := List.mem_iff_getElem.1 hy
  have hj : j < p.parts.length := by rw [← hs.parts]; exact hj'
  obtain ⟨-, h1 | h1⟩ := h j hj hj'
  · have : decide (p'.parts[j].learner = 0) = false := by rw [h1.2]; exact decide_eq_false (by omega)
    simp [wantP, this]
  · rw [h1.2]
    have h2 : ¬ wantP p n p.parts[j] = true := fun h3 => h1.1 ((mem_placesB hj).2 h3)
    have h3 : wantP p n p.parts[j] = false := by simpa using h2
    unfold wantP at h3 ⊢
    rw [hs.nodes, hs.copies]
    exact h3
end Go.Proofs.YtcpaaleogmiamaaGreatDoor
