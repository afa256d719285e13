/- The walks of plan.place and plan.New. -/
/- Plan in plain words: what an event does to a plan. -/
/- Plan in plain words: what an event leaves of a plan. -/
/- Plan in plain words: a good plan stays good. -/
import Derived.Test.YtcpaaleogmiamaaGreatDoorMh5
import Derived.Test.YtcpaaleogmiamaaGreatDoorMh19
import Derived.Test.YtcpaaleogmiamaaGreatDoorMh12
import Derived.Test.YtcpaaleogmiamaaGreatDoorMh10
namespace Go.Proofs.YtcpaaleogmiamaaGreatDoor
open Go.RowKit

def chainP (p n c : Nat) : List Int := (List.range c).map fun i => (((p + i) % n + 1 : Nat) : Int)
theorem chainP_length (p n c : Nat) : (chainP p n c).length = c := by simp [chainP]
theorem chainP_succ (p n c : Nat) : chainP p n (c + 1) = chainP p n c ++ [(((p + c) % n + 1 : Nat) : Int)] := by simp [chainP, List.range_succ]

def placeP (p n c : Nat) : Pt := ⟨1, chainP p n c, 0⟩

def PlaceOut (w : World) (p n c : Nat) (e : Ending) (w' : World) : Prop :=
  ∃ cv, e = .returned (.agg #[.int .i64 1, cv, .int .i64 0]) ∧ w'.ownsRow w.heap.size 3 1 cv c (intCells (chainP p n c)) ∧ Below w.heap.size w w'

set_option maxRecDepth 100000 in
set_option maxHeartbeats 2000000 in
theorem place_any (p n c : Nat) (w : World) (hn : 0 < n) (hp : p ≤ 1000) (hn2 : n ≤ 1000) (hc : c ≤ 1000) :
    Calls Tryz.prog 130 #[.int .i64 p, .int .i64 n, .int .i64 c] w (PlaceOut w p n c) := by
  obtain ⟨i1, ki, kz0, kz1, kz2⟩ := info_parts info_Int
  have b1 : (p : Int) ≤ 1000 := by omega
  have b2 : (n : Int) ≤ 1000 := by omega
  have b3 : (c : Int) ≤ 1000 := by omega
  go_enter Tryz.func130, Tryz.ntmps130
  go_wp2
  go_loopg [8, 11] c (fun gk _ i wr => ∃ (k : Nat) (cv : Value), k ≤ c ∧ gk = c - k ∧ i = .int .i64 k ∧ wr.ownsRow (w.heap.size + 2) 3 1 cv k (intCells (chainP p n k)) ∧
    wr.heap[w.heap.size + 1]? = some (.cells #[.int .i64 1, cv, .int .i64 0] 36 (0, 0)) ∧ wr.heap[w.heap.size]? = some (.cells #[.int .i64 0, .slice none 0 0, .int .i64 0] 36 (0, 0)) ∧ Below w.heap.size w wr)
  case atStart =>
    refine ⟨0, _, Nat.zero_le _, rfl, rfl, World.ownsRow_nil _ _ _ _, heap_new1 _ _ _, ?_, below_alloc2 _ _ _⟩
    rw [Below.heap_alloc _ _ _ (by simp)]
    exact heap_alloc_new w _
  case round =>
    obtain ⟨k, cv, hk, rfl, rfl, hown, hx, h0, hbel⟩ := hrel
    have HX := Lib.hid (And.intro hown (And.intro hx (And.intro h0 hbel)))
    have hsz := hbel.size
    have hxlt : w.heap.size + 1 < wr.heap.size := (Array.getElem?_eq_some_iff.1 hx).1
    clear hown h0 hbel
    by_cases hlt : k < c
    · have i1' : (k : Int) < (c : Int) := by omega
      have i2 : (0 : Int) ≤ (k : Int) := by omega
      have e1 : IntKind.i64.wrap ((p : Int) + (k : Int)) = ((p + k : Nat) : Int) := by rw [IntWalk.i64_in _ (by omega)]; omega
      have hmod : (p + k) % n < n := Nat.mod_lt _ hn
      have e3 : IntKind.i64.wrap (((p : Int) + (k : Int)).tmod (n : Int) + 1) = (((p + k) % n + 1 : Nat) : Int) := by
        have : ((p : Int) + (k : Int)).tmod (n : Int) = (((p + k) % n : Nat) : Int) := by rw [Int.tmod_eq_emod_of_nonneg (by omega)]; push_cast; rfl
        rw [this, IntWalk.i64_in _ (by omega)]; omega
      have hn0 : ¬ n = 0 := by omega
      have hsucc := chainP_succ p n k
      generalize ((p + k) % n + 1 : Nat) = y at *
      have c1 : wr.cell? ⟨w.heap.size + 1, 1, none⟩ = some cv := by rw [cell_of_row wr _ 1 _ _ _ hx]; rfl
      have hkeep : ∀ w', Upd (fun b => some b = cv.ownBlock) wr w' → w'.cell? ⟨w.heap.size + 1, 1, none⟩ = some cv ∧ w'.frozen? ⟨w.heap.size + 1, 1, none⟩ = false := by
        intro w' hu
        have hne : ¬ some (w.heap.size + 1) = cv.ownBlock := fun e => by have := (owns_lt HX.out.1 _ e.symm).1; omega
        have hbk := hu.block _ hxlt hne
        refine ⟨(World.cell?_of_block hbk).trans c1, (World.frozen?_of_block hbk).trans ?_⟩
        simp [World.frozen?, hx]
      have HK := Lib.hid hkeep
      clear hkeep hx
      have hb2 : w.heap.size + 2 ≤ wr.heap.size + 1 := by omega
      have hs2 : intCells (chainP p n (k + 1)) = intCells (chainP p n k) ++ [.int .i64 (y : Int)] := by rw [hsucc]; simp [intCells]
      generalize hX : w.heap.size + 1 = X at *
      have HHX := Lib.hid (And.intro hX hs2)
      clear hX hs2 hsucc
      go_wp2
      have ca : ∀ o, (wr.alloc o).cell? ⟨X, 1, none⟩ = some cv := fun o => (HK.out _ (upd_alloc _ wr o)).1
      go_region_law
        (first
          | (refine step_append_lies _ (by rfl) _ _ _ (by rfl) (w.heap.size + 2) 3 i1 _ 1 8 und_Ints ki kz0 kz1 kz2 rfl (by omega) cv k (intCells (chainP p n k)) (by rfl) (HX.out.1.alloc _) ⟨wr.heap.size, 0, none⟩ 1 1 [.int .i64 (y : Int)] (by rfl) (by rfl) (World.news_of_block (cs := #[.int .i64 (y : Int)]) (t := 3) (fr := (0, 0)) (heap_alloc_new wr _)) (by simp [Value.oneCell']) (by omega) ?_ ?_ ?_ _ rfl ?_; (unfold maxLen; omega); omega; (first | (simp only [World.size_alloc, World.size_drew]; omega) | omega); rintro g9 gcap9 w9 hown9 hgrow9 - hlt9; obtain ⟨c9, f9⟩ := HK.out w9 (((upd_alloc _ wr _).trans (upd_drew _ _)).trans (upd_grown hgrow9))))
      all_goals
        have hu9 := ((upd_alloc (fun b => some b = cv.ownBlock) wr (.cells #[.int .i64 (y : Int)] 3)).trans (upd_drew _ _)).trans (upd_grown hgrow9)
        have HY := Lib.hid (And.intro hown9 hu9)
        clear hown9 hu9 hgrow9 c9 f9 ca c1
        go_wp2
        go_roundg (c - (k + 1))
        case measure => omega
        case rel =>
          have hX := HHX.out.1
          have hlo := owns_lt HY.out.1 g9 rfl
          have hne : ¬ some X = cv.ownBlock := fun e => by have := (owns_lt HX.out.1 _ e.symm).1; omega
          have hneN : ¬ some w.heap.size = cv.ownBlock := fun e => by have := (owns_lt HX.out.1 _ e.symm).1; omega
          have hx9 := (HY.out.2.block X hxlt hne).trans HX.out.2.1
          have h09 := (HY.out.2.block w.heap.size (by omega) hneN).trans HX.out.2.2.1
          have hset := upd_setCell (F := fun b => b = X) (Upd.refl _ w9) (b := X) (o := 1) rfl (.slice (some ⟨g9, 0, none⟩) (k + 1) gcap9)
          refine ⟨k + 1, .slice (some ⟨g9, 0, none⟩) (k + 1) gcap9, by omega, rfl, by go_num, ?_, ?_, ?_, ?_⟩
          · rw [HHX.out.2]
            exact owns_upd HY.out.1 hset (fun g hg e => by have := (owns_lt HY.out.1 g hg).1; omega)
          · exact setCell_same hx9
          · rw [hset.block w.heap.size (by have := HY.out.2.size; omega) (by omega)]
            exact h09
          · exact HX.out.2.2.2.trans ((HY.out.2.toBelow hsz (fun b e => by have := (owns_lt HX.out.1 b e.symm).1; omega)).trans (hset.toBelow (by have := HY.out.2.size; omega) (fun b e => by omega)))
    · have i1' : ¬ (k : Int) < (c : Int) := by omega
      have hkc : k = c := by omega
      subst hkc
      obtain ⟨ca, cc, rfl, -⟩ := (Sl.of_owns HX.out.1).shape
      have hx := HX.out.2.1
      have h0 := HX.out.2.2.1
      have d0 := cells_of hx 0 _ rfl
      have d1 := cells_of hx 1 _ rfl
      have d2 := cells_of hx 2 _ rfl
      have n0 := cells_of h0 0 _ rfl
      have n1 := cells_of h0 1 _ rfl
      have n2 := cells_of h0 2 _ rfl
      have f0 := frozen_of (j := 0) h0
      have f1 := frozen_of (j := 1) h0
      have f2 := frozen_of (j := 2) h0
      have HH := Lib.hid h0
      clear hx h0
      go_wp2
      have hf := setCell_same (o := 2) (v := .int .i64 0) (setCell_same (o := 1) (v := .slice ca k cc) (setCell_same (o := 0) (v := .int .i64 1) HH.out))
      have r0 := cells_of hf 0 _ rfl
      have r1 := cells_of hf 1 _ rfl
      have r2 := cells_of hf 2 _ rfl
      refine bodyPost_ret (v := .agg #[.int .i64 1, .slice ca k cc, .int .i64 0]) (by simp [results, Tryz.results130, go_sem, r0, r1, r2]) rfl ⟨_, rfl, ?_, ?_⟩
      · have hset3 := upd_set3 wr w.heap.size (.int .i64 1) (.slice ca k cc) (.int .i64 0)
        exact owns_mono (owns_upd HX.out.1 hset3 (fun g hg e => by have := (owns_lt HX.out.1 g hg).1; omega)) (by omega)
      · have hset3 := upd_set3 wr w.heap.size (.int .i64 1) (.slice ca k cc) (.int .i64 0)
        exact HX.out.2.2.2.trans (hset3.toBelow hsz (fun b e => by omega))
end Go.Proofs.YtcpaaleogmiamaaGreatDoor
namespace Go.Proofs.YtcpaaleogmiamaaGreatDoor

def deadB (n : Int) (y : Pt) : Bool := decide (y.learner = n) || (decide (0 ≤ idx y.chain n) && decide (1 < y.chain.length))
def deadX (n : Int) (y : Pt) : Pt :=
  if y.learner = n then ⟨y.epoch, y.chain, 0⟩
  else if 0 ≤ idx y.chain n ∧ 1 < y.chain.length then ⟨y.epoch, y.chain.eraseIdx (idx y.chain n).toNat, y.learner⟩ else y

def atP (P : List Pt) (i : Int) : Pt := P.getD i.toNat ⟨0, [], 0⟩

def changeP (p : Pl) (x : Event) : Pl × List Int × Int :=
  if x.kind = 1 then
    if x.n ≤ lifeP p.lives x.node then (p, [], 21) else (⟨p.nodes, p.copies, p.parts, bootL p.lives (x.node, x.n)⟩, placesB (holdsB x.node) p.parts, 0)
  else if x.kind = 2 then
    if placesB (deadB x.node) p.parts = [] then (p, [], 21) else (⟨p.nodes, p.copies, p.parts.map (deadX x.node), p.lives⟩, placesB (deadB x.node) p.parts, 0)
  else if x.kind = 3 then
    if (atP p.parts x.part).epoch = x.n ∧ (atP p.parts x.part).learner = x.node then
      (⟨p.nodes, p.copies, p.parts.set x.part.toNat ⟨(atP p.parts x.part).epoch, (atP p.parts x.part).chain ++ [x.node], 0⟩, p.lives⟩, [x.part], 0)
    else (p, [], 21)
  else if x.kind = 5 then
    if lifeP p.lives x.node = 0 ∨ (wantsP p x.node).contains x.part = false then (p, [], 21)
    else (⟨p.nodes, p.copies, p.parts.set x.part.toNat ⟨(atP p.parts x.part).epoch, (atP p.parts x.part).chain, x.node⟩, p.lives⟩, [x.part], 0)
  else if 4 ≤ p.parts.length then (p, [], 32)
  else (⟨p.nodes, p.copies, p.parts ++ [placeP p.parts.length p.nodes.toNat p.copies.toNat], p.lives⟩, [(p.parts.length : Int)], 0)

def bumpP : List Pt → List Int → Option (List Pt)
  | P, [] => some P
  | P, i :: t => if 1073741824 < (atP P i).epoch + 1 then none else bumpP (P.set i.toNat ⟨(atP P i).epoch + 1, (atP P i).chain, (atP P i).learner⟩) t

def canB (p : Pl) (x : Event) : Bool := goodP p && (eventB x && (decide (x.node ≤ p.nodes) && decide (x.part < (p.parts.length : Int))))

def applyP (p : Pl) (x : Event) : Pl × List Int × Int :=
  if canB p x = false then (.zero, [], 1)
  else if (changeP p x).2.2 ≠ 0 then (.zero, [], (changeP p x).2.2)
  else if x.kind = 4 then changeP p x
  else match bumpP (changeP p x).1.parts (changeP p x).2.1 with
    | some Q => (⟨(changeP p x).1.nodes, (changeP p x).1.copies, Q, (changeP p x).1.lives⟩, (changeP p x).2.1, 0)
    | none => (.zero, [], 32)

theorem atP_lt {P : List Pt} {j : Nat} (h : j < P.length) : atP P (j : Int) = P[j] := by simp [atP, h]

theorem short_of {l : List Int} : ∀ (N : Nat), l.Nodup → (∀ x ∈ l, 1 ≤ x ∧ x ≤ (N : Int)) → l.length ≤ N := by
  intro N
  induction N generalizing l with
  | zero =>
    intro _ h
    cases l with
    | nil => simp
    | cons x l => have := h x (by simp); omega
  | succ N ih =>
    intro hn h
    have h1 : (l.erase ((N + 1 : Nat) : Int)).length ≤ N := by
      refine ih (hn.erase _) (fun x hx => ?_)
      have hm := (List.Nodup.mem_erase_iff hn).1 hx
      have := h x hm.2
      have := hm.1
      omega
    have h2 := List.length_erase (a := ((N + 1 : Nat) : Int)) (l := l)
    split at h2 <;> omega

theorem goodP_iff {p : Pl} : goodP p = true ↔ (1 ≤ p.nodes ∧ p.nodes ≤ 5) ∧ (1 ≤ p.copies ∧ p.copies ≤ p.nodes) ∧ (2 ≤ (p.parts.length : Int) ∧ (p.parts.length : Int) ≤ 4) ∧ (∀ x ∈ p.parts, isPlaceB x p.nodes = true) ∧ (∀ x ∈ p.lives, lifeOk p.nodes x = true) ∧ Rising p.lives := by
  simp [goodP, inB_iff, and_assoc]

theorem isPlaceB_iff {x : Pt} {nodes : Int} : isPlaceB x nodes = true ↔ (∀ n ∈ x.chain, 1 ≤ n ∧ n ≤ nodes) ∧ x.chain.Nodup ∧ (1 ≤ x.epoch ∧ x.epoch ≤ 1073741824) ∧ 0 < x.chain.length ∧ (0 ≤ x.learner ∧ x.learner ≤ nodes) ∧ x.learner ∉ x.chain := by
  simp [isPlaceB, inB_iff, and_assoc]

theorem small_of_good {p : Pl} (h : goodP p = true) : SmallP p ∧ (∀ x ∈ p.parts, x.chain.length ≤ 5) ∧ p.lives.length ≤ 5 := by
  obtain ⟨h1, h2, h3, h4, h5, h6⟩ := goodP_iff.1 h
  have hc : ∀ x ∈ p.parts, x.chain.length ≤ 5 := by
    intro x hx
    obtain ⟨q1, q2, -⟩ := isPlaceB_iff.1 (h4 x hx)
    exact short_of 5 q2 (fun n hn => by have := q1 n hn; omega)
  have hl : p.lives.length ≤ 5 := by
    have hn : (p.lives.map (·.1)).Nodup := by
      rw [List.nodup_iff_pairwise_ne, List.pairwise_map]
      exact h6.imp (fun h => by omega)
    have := short_of 5 hn (fun n hn => by
      obtain ⟨x, hx, rfl⟩ := List.mem_map.1 hn
      have := h5 x hx
      simp [lifeOk, inB_iff] at this
      omega)
    simpa using this
  exact ⟨⟨by omega, by omega, fun x hx => by have := hc x hx; omega⟩, hc, hl⟩
end Go.Proofs.YtcpaaleogmiamaaGreatDoor
namespace Go.Proofs.YtcpaaleogmiamaaGreatDoor

def incr (y : Pt) : Pt := ⟨y.epoch + 1, y.chain, y.learner⟩

theorem atP_eq {P : List Pt} {i : Int} (h0 : 0 ≤ i) (h : i < (P.length : Int)) : ∃ j : Nat, i = (j : Int) ∧ ∃ hj : j < P.length, atP P i = P[j] := by
  obtain ⟨j, rfl⟩ := Int.eq_ofNat_of_zero_le h0
  have hj : j < P.length := by omega
  exact ⟨j, rfl, hj, atP_lt hj⟩

/-- The epochs of the places told of rise by one, and no others. -/
theorem bumpP_spec : ∀ (t : List Int) (P Q : List Pt), t.Nodup → (∀ i ∈ t, 0 ≤ i ∧ i < (P.length : Int)) → bumpP P t = some Q →
    Q.length = P.length ∧ (∀ k (h : k < P.length) (h' : k < Q.length), Q[k] = if (k : Int) ∈ t then incr P[k] else P[k]) ∧ (∀ k (h : k < P.length), (k : Int) ∈ t → P[k].epoch + 1 ≤ 1073741824) := by
  intro t
  induction t with
  | nil =>
    intro P Q _ _ h
    simp only [bumpP, Option.some.injEq] at h
    subst h
    exact ⟨rfl, fun k h h' => by simp, fun k h h' => by simp at h'⟩
  | cons i t ih =>
    intro P Q hn hv h
    obtain ⟨h0, h1⟩ := hv i (by simp)
    obtain ⟨j, rfl, hj, hat⟩ := atP_eq h0 h1
    rw [List.nodup_cons] at hn
    simp only [bumpP] at h
    by_cases hm : 1073741824 < (atP P (j : Int)).epoch + 1
    · rw [if_pos hm] at h; cases h
    rw [if_neg hm] at h
    obtain ⟨q1, q2, q3⟩ := ih _ Q hn.2 (fun i' hi' => by have := hv i' (by simp [hi']); simpa using this) h
    rw [hat] at hm
    refine ⟨by simpa using q1, fun k hk hk' => ?_, fun k hk hkt => ?_⟩
    · have := q2 k (by simpa using hk) hk'
      rw [this, List.getElem_set]
      by_cases he : j = k
      · subst he
        simp [hn.1, hat, incr]
      · have : ¬ (k : Int) = (j : Int) := by omega
        have e2 : ¬ (Int.toNat (j : Int) = k) := by simpa using he
        simp [this, he]
    · by_cases he : j = k
      · subst he; omega
      · have hkt' : (k : Int) ∈ t := by
          rcases List.mem_cons.1 hkt with h2 | h2
          · omega
          · exact h2
        have := q3 k (by simpa using hk) hkt'
        rw [List.getElem_set, if_neg (by simpa using he)] at this
        exact this

theorem mem_placesB {α : Type} {f : α → Bool} {l : List α} {k : Nat} (hk : k < l.length) : (k : Int) ∈ placesB f l ↔ f l[k] = true := by
  unfold placesB
  rw [List.mem_map]
  constructor
  · rintro ⟨i, hi, e⟩
    have e : i = k := by omega
    subst e
    have := (List.mem_filter.1 hi).2
    simpa [hk] using this
  · intro h
    exact ⟨k, List.mem_filter.2 ⟨by simpa using hk, by simp [hk, h]⟩, rfl⟩

theorem placesB_range {α : Type} {f : α → Bool} {l : List α} {i : Int} (h : i ∈ placesB f l) : 0 ≤ i ∧ i < (l.length : Int) := by
  unfold placesB at h
  obtain ⟨j, hj, rfl⟩ := List.mem_map.1 h
  have := (List.mem_filter.1 hj).1
  simp at this
  omega

theorem placesB_nodup {α : Type} (f : α → Bool) (l : List α) : (placesB f l).Nodup := by
  unfold placesB
  rw [List.nodup_iff_pairwise_ne, List.pairwise_map]
  refine (List.Pairwise.filter _ List.nodup_range).imp (fun h => ?_)
  omega

theorem placesB_nil {α : Type} {f : α → Bool} {l : List α} : placesB f l = [] ↔ ∀ x ∈ l, f x = false := by
  constructor
  · intro h x hx
    obtain ⟨k, hk, rfl⟩ := List.mem_iff_getElem.1 hx
    cases hf : f l[k]
    · rfl
    · have := (mem_placesB hk).2 hf
      rw [h] at this
      cases this
  · intro h
    refine List.eq_nil_iff_forall_not_mem.2 (fun i hi => ?_)
    obtain ⟨h0, h1⟩ := placesB_range hi
    obtain ⟨j, rfl⟩ := Int.eq_ofNat_of_zero_le h0
    have hj : j < l.length := by omega
    have := (mem_placesB hj).1 hi
    rw [h _ (List.getElem_mem hj)] at this
    cases this

/-- The places told of are places, each once. -/
theorem changeP_turned {p : Pl} {x : Event} (hx : 0 ≤ x.part) (hx2 : x.part < (p.parts.length : Int)) (_h0 : (changeP p x).2.2 = 0) :
    (changeP p x).2.1.Nodup ∧ (∀ i ∈ (changeP p x).2.1, 0 ≤ i ∧ i < ((changeP p x).1.parts.length : Int)) := by
  unfold changeP
  split
  · split
    · exact ⟨by simp, by simp⟩
    · exact ⟨placesB_nodup _ _, fun i hi => placesB_range hi⟩
  · split
    · split
      · exact ⟨by simp, by simp⟩
      · exact ⟨placesB_nodup _ _, fun i hi => by have := placesB_range hi; simpa using this⟩
    · split
      · split
        · exact ⟨by simp, fun i hi => by simp at hi; subst hi; simpa using ⟨hx, hx2⟩⟩
        · exact ⟨by simp, by simp⟩
      · split
        · split
          · exact ⟨by simp, by simp⟩
          · exact ⟨by simp, fun i hi => by simp at hi; subst hi; simpa using ⟨hx, hx2⟩⟩
        · split
          · exact ⟨by simp, by simp⟩
          · exact ⟨by simp, fun i hi => by simp at hi; subst hi; simp; omega⟩
end Go.Proofs.YtcpaaleogmiamaaGreatDoor
namespace Go.Proofs.YtcpaaleogmiamaaGreatDoor

theorem idx_at {l : List Int} {n : Int} (h : 0 ≤ idx l n) : ∃ i, ∃ hi : i < l.length, idx l n = (i : Int) ∧ l[i] = n := by
  unfold idx at h ⊢
  cases hf : l.findIdx? (· == n) with
  | none => rw [hf] at h; simp at h
  | some i =>
    rw [List.findIdx?_eq_some_iff_getElem] at hf
    obtain ⟨hi, h1, -⟩ := hf
    exact ⟨i, hi, rfl, by simpa using h1⟩

theorem idx_mem {l : List Int} {n : Int} : 0 ≤ idx l n ↔ n ∈ l := by
  have := idx_contains l n
  constructor
  · intro h
    rw [decide_eq_true h] at this
    simpa using this.symm
  · intro h
    have h2 : l.contains n = true := by simpa using h
    rw [h2] at this
    simpa using this

theorem erase_out {l : List Int} {n : Int} (hn : l.Nodup) (h : 0 ≤ idx l n) : n ∉ l.eraseIdx (idx l n).toNat ∧ (l.eraseIdx (idx l n).toNat).Sublist l ∧ (l.eraseIdx (idx l n).toNat).length = l.length - 1 ∧
    l.eraseIdx (idx l n).toNat = l.erase n := by
  obtain ⟨i, hi, e, e2⟩ := idx_at h
  rw [e]
  simp only [Int.toNat_natCast]
  refine ⟨?_, List.eraseIdx_sublist _ _, by rw [List.length_eraseIdx, if_pos hi], ?_⟩
  · intro hm
    rw [List.mem_eraseIdx_iff_getElem] at hm
    obtain ⟨j, hj, hne, e3⟩ := hm
    rw [← e2] at e3
    by_cases hji : j < i
    · exact List.pairwise_iff_getElem.1 (List.nodup_iff_pairwise_ne.1 hn) j i hj hi hji e3
    · exact List.pairwise_iff_getElem.1 (List.nodup_iff_pairwise_ne.1 hn) i j hi hj (by omega) e3.symm
  · have h1 := idx_mem.1 h
    have : l.idxOf n = i := by
      have h3 := List.Nodup.idxOf_getElem hn i hi
      rw [e2] at h3
      exact h3
    rw [List.erase_eq_eraseIdx_of_idxOf this]

theorem split_rising {L : List (Int × Int)} (hr : Rising L) (n : Int) : ∃ i, i ≤ L.length ∧ (∀ t (ht : t < L.length), t < i → L[t].1 < n) ∧ (∀ t (ht : t < L.length), i ≤ t → n ≤ L[t].1) := by
  induction L with
  | nil => exact ⟨0, by simp, fun t ht => by simp at ht, fun t ht => by simp at ht⟩
  | cons x L ih =>
    unfold Rising at hr ih
    rw [List.pairwise_cons] at hr
    by_cases hx : x.1 < n
    · obtain ⟨i, h1, h2, h3⟩ := ih hr.2
      refine ⟨i + 1, by simpa using h1, fun t ht hti => ?_, fun t ht hti => ?_⟩
      · cases t with
        | zero => exact hx
        | succ t => exact h2 t (by simpa using ht) (by omega)
      · cases t with
        | zero => omega
        | succ t => exact h3 t (by simpa using ht) (by omega)
    · refine ⟨0, by simp, fun t ht hti => by omega, fun t ht _ => ?_⟩
      cases t with
      | zero => simpa using hx
      | succ t =>
        have := hr.1 _ (List.getElem_mem (by simpa using ht : t < L.length))
        simp only [List.getElem_cons_succ]
        omega

theorem lifeAt_split {L : List (Int × Int)} (hr : Rising L) (n : Int) : lifeAt L n ≤ L.length ∧ (∀ t (ht : t < L.length), t < lifeAt L n → L[t].1 < n) ∧ (∀ t (ht : t < L.length), lifeAt L n ≤ t → n ≤ L[t].1) := by
  obtain ⟨i, h1, h2, h3⟩ := split_rising hr n
  rw [lifeAt_of h1 h2 h3]
  exact ⟨h1, h2, h3⟩

/-- A life that is put in stands between those of lesser and those of greater nodes. -/
theorem bootL_form {L : List (Int × Int)} (hr : Rising L) (x : Int × Int) : ∃ A B, bootL L x = A ++ x :: B ∧ (∀ y ∈ A, y.1 < x.1) ∧ (∀ y ∈ B, x.1 < y.1) ∧ Rising A ∧ Rising B ∧
    (L = A ++ B ∨ ∃ z, L = A ++ z :: B ∧ z.1 = x.1) := by
  obtain ⟨h1, h2, h3⟩ := lifeAt_split hr x.1
  obtain ⟨i, hi⟩ : ∃ i, lifeAt L x.1 = i := ⟨_, rfl⟩
  rw [hi] at h1 h2 h3
  have hA : ∀ y ∈ L.take i, y.1 < x.1 := by
    intro y hy
    obtain ⟨t, ht, rfl⟩ := List.mem_iff_getElem.1 hy
    rw [List.getElem_take]
    simp at ht
    exact h2 t (by omega) (by omega)
  have hRA : Rising (L.take i) := List.Pairwise.sublist (List.take_sublist _ _) hr
  cases hh : hasLife L x.1
  · have hne : ∀ y ∈ L, y.1 ≠ x.1 := by
      simp only [hasLife, List.any_eq_false, beq_iff_eq] at hh
      exact hh
    refine ⟨L.take i, L.drop i, by simp [bootL, hh, hi], hA, ?_, hRA, List.Pairwise.sublist (List.drop_sublist _ _) hr, .inl (by simp)⟩
    intro y hy
    obtain ⟨t, ht, rfl⟩ := List.mem_iff_getElem.1 hy
    rw [List.getElem_drop]
    simp at ht
    have a := h3 (i + t) (by omega) (by omega)
    have b := hne L[i + t] (List.getElem_mem _)
    omega
  · obtain ⟨hlt, e1, -⟩ := life_at hr hh
    have hlt' : i < L.length := by omega
    have e1' : L[i].1 = x.1 := by simp only [hi] at e1; exact e1
    refine ⟨L.take i, L.drop (i + 1), ?_, hA, ?_, hRA, List.Pairwise.sublist (List.drop_sublist _ _) hr, .inr ⟨L[i], ?_, e1'⟩⟩
    · simp only [bootL, hh, if_true, hi]
      rw [List.set_eq_take_append_cons_drop, if_pos hlt']
    · intro y hy
      obtain ⟨t, ht, rfl⟩ := List.mem_iff_getElem.1 hy
      rw [List.getElem_drop]
      simp at ht
      have := List.pairwise_iff_getElem.1 hr i (i + 1 + t) hlt' (by omega) (by omega)
      omega
    · rw [List.getElem_cons_drop, List.take_append_drop]

theorem bootL_rising {L : List (Int × Int)} (hr : Rising L) (x : Int × Int) : Rising (bootL L x) := by
  obtain ⟨A, B, e, hA, hB, hRA, hRB, -⟩ := bootL_form hr x
  rw [e]
  refine List.pairwise_append.2 ⟨hRA, List.pairwise_cons.2 ⟨hB, hRB⟩, fun a ha b hb => ?_⟩
  rcases List.mem_cons.1 hb with rfl | hb
  · exact hA a ha
  · exact Int.lt_trans (hA a ha) (hB b hb)

theorem bootL_mem {L : List (Int × Int)} (hr : Rising L) {x y : Int × Int} (h : y ∈ bootL L x) : y = x ∨ y ∈ L := by
  obtain ⟨A, B, e, -, -, -, -, h2⟩ := bootL_form hr x
  rw [e] at h
  simp only [List.mem_append, List.mem_cons] at h
  rcases h2 with h2 | ⟨z, h2, -⟩ <;> rw [h2] <;> simp only [List.mem_append, List.mem_cons] <;> rcases h with h | h | h <;> simp [h]

theorem lifeP_append (A B : List (Int × Int)) (n : Int) (h : ∀ y ∈ A, y.1 ≠ n) : lifeP (A ++ B) n = lifeP B n := by
  unfold lifeP
  rw [List.find?_append]
  have : A.find? (fun x => x.1 == n) = none := by
    rw [List.find?_eq_none]
    intro y hy
    simpa using h y hy
  rw [this]
  rfl

theorem lifeP_cons (x : Int × Int) (B : List (Int × Int)) (n : Int) : lifeP (x :: B) n = if x.1 = n then x.2 else lifeP B n := by
  unfold lifeP
  rw [List.find?_cons]
  by_cases h : x.1 = n
  · simp [h]
  · have : (x.1 == n) = false := by simpa using h
    simp [this, h]

theorem lifeP_app2 (A B : List (Int × Int)) (n : Int) : lifeP (A ++ B) n = if (∃ y ∈ A, y.1 = n) then lifeP A n else lifeP B n := by
  split
  · rename_i h
    obtain ⟨y, hy, e⟩ := h
    unfold lifeP
    rw [List.find?_append]
    cases hf : A.find? (fun x => x.1 == n) with
    | none =>
      rw [List.find?_eq_none] at hf
      have := hf y hy
      simp [e] at this
    | some z => rfl
  · rename_i h
    exact lifeP_append A B n (fun y hy e => h ⟨y, hy, e⟩)

theorem lifeP_boot {L : List (Int × Int)} (hr : Rising L) (x : Int × Int) (n : Int) : lifeP (bootL L x) n = if n = x.1 then x.2 else lifeP L n := by
  obtain ⟨A, B, e, hA, hB, hRA, hRB, h2⟩ := bootL_form hr x
  rw [e]
  by_cases hn : n = x.1
  · subst hn
    rw [lifeP_append _ _ _ (fun y hy => by have := hA y hy; omega), lifeP_cons, if_pos rfl, if_pos rfl]
  · rw [if_neg hn, lifeP_app2, lifeP_cons]
    have hx : ¬ x.1 = n := fun h => hn h.symm
    simp only [hx, if_false]
    rcases h2 with h2 | ⟨z, h2, e2⟩
    · rw [h2, lifeP_app2]
    · rw [h2, lifeP_app2, lifeP_cons]
      have hz : ¬ z.1 = n := fun h => hn (by omega)
      simp only [hz, if_false]

theorem incr_place {y : Pt} {n : Int} (h : isPlaceB y n = true) (h2 : y.epoch + 1 ≤ 1073741824) : isPlaceB (incr y) n = true := by
  rw [isPlaceB_iff] at h ⊢
  obtain ⟨a, b, c, d⟩ := h
  exact ⟨a, b, ⟨by simp only [incr]; omega, h2⟩, d⟩

theorem dead_place {y : Pt} {n N : Int} (h : isPlaceB y N = true) : isPlaceB (deadX n y) N = true := by
  rw [isPlaceB_iff] at h
  obtain ⟨a, b, c, d, e, f⟩ := h
  unfold deadX
  split
  · rw [isPlaceB_iff]
    refine ⟨a, b, c, d, ⟨by simp, by simp only; omega⟩, ?_⟩
    intro hm
    have := a 0 hm
    omega
  · split
    · rename_i h1
      obtain ⟨q1, q2, q3, q4⟩ := erase_out b h1.1
      rw [isPlaceB_iff]
      refine ⟨fun m hm => a m (q2.subset hm), List.Pairwise.sublist q2 b, c, by simp only; omega, e, fun hm => f (q2.subset hm)⟩
    · rw [isPlaceB_iff]; exact ⟨a, b, c, d, e, f⟩

theorem place_place {p n c : Nat} (h1 : 0 < c) (h2 : c ≤ n) : isPlaceB (placeP p n c) (n : Int) = true := by
  rw [isPlaceB_iff]
  have hn : 0 < n := by omega
  refine ⟨?_, ?_, ⟨by simp [placeP], by simp [placeP]⟩, by simpa [placeP, chainP_length] using h1, ⟨by simp [placeP], by simp [placeP]⟩, ?_⟩
  · intro m hm
    simp only [placeP, chainP, List.mem_map, List.mem_range] at hm
    obtain ⟨i, hi, rfl⟩ := hm
    have := Nat.mod_lt (p + i) hn
    omega
  · simp only [placeP, chainP]
    rw [List.nodup_iff_pairwise_ne, List.pairwise_map, List.pairwise_iff_getElem]
    intro i j hi hj hij
    simp at hi hj
    simp only [List.getElem_range]
    intro e
    have e : (p + i) % n = (p + j) % n := by omega
    have h3 : (j - i) % n = 0 := by
      have h4 := Nat.sub_mod_eq_zero_of_mod_eq e.symm
      have : p + j - (p + i) = j - i := by omega
      rw [this] at h4
      exact h4
    rw [Nat.mod_eq_of_lt (by omega)] at h3
    omega
  · intro hm
    simp only [placeP, chainP, List.mem_map, List.mem_range] at hm
    obtain ⟨i, hi, e⟩ := hm
    omega
end Go.Proofs.YtcpaaleogmiamaaGreatDoor
