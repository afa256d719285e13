/- Plan's events: plain data, what can be, their bytes; the walks of within, isEvent and the reference's node, num, Event. -/
/- Plans as plain data; what a plan's words in memory are. -/
import Derived.Test.YtcpaaleogmiamaaGreatDoorMp4
import Derived.Test.YtcpaaleogmiamaaGreatDoorMp1
namespace Go.Proofs.YtcpaaleogmiamaaGreatDoor
open Go.RowKit

structure Event where
  kind : Int
  node : Int
  part : Int
  n : Int
  deriving DecidableEq

def Event.v (x : Event) : Value := .agg #[.int .i64 x.kind, .int .i64 x.node, .int .i64 x.part, .int .i64 x.n]
def Event.zero : Event := ⟨0, 0, 0, 0⟩

def inB (n low high : Int) : Bool := decide (low ≤ n) && decide (n ≤ high)

/-- Whether an event can be. -/
def eventB (x : Event) : Bool :=
  if x.kind = 1 then inB x.node 1 5 && decide (x.part = 0) && inB x.n 1 1073741824
  else if x.kind = 2 then inB x.node 1 5 && decide (x.part = 0) && decide (x.n = 0)
  else if x.kind = 3 then inB x.node 1 5 && inB x.part 0 3 && inB x.n 1 1073741824
  else if x.kind = 4 then decide (x.node = 0) && decide (x.part = 0) && decide (x.n = 0)
  else if x.kind = 5 then inB x.node 1 5 && inB x.part 0 3 && decide (x.n = 0)
  else false

theorem within_any (n a b : Int) (w : World) : Calls Tryz.prog 74 #[.int .i64 n, .int .i64 a, .int .i64 b] w fun e w' => e = .returned (.bool (inB n a b)) ∧ w' = w := by
  by_cases h1 : a ≤ n
  · by_cases h2 : n ≤ b
    · have h : inB n a b = true := by simp [inB, h1, h2]
      rw [h]
      clear h
      go_enter Tryz.func74, Tryz.ntmps74
      go_wp2
      go_ret
      exact ⟨rfl, rfl⟩
    · have h : inB n a b = false := by simp [inB, h2]
      rw [h]
      clear h
      go_enter Tryz.func74, Tryz.ntmps74
      go_wp2
      go_ret
      exact ⟨rfl, rfl⟩
  · have h : inB n a b = false := by simp [inB, h1]
    rw [h]
    clear h
    go_enter Tryz.func74, Tryz.ntmps74
    go_wp2
    go_ret
    exact ⟨rfl, rfl⟩

def encE (x : Event) : List UInt8 := 108 :: (encI x.kind ++ (encI x.node ++ (encI x.part ++ (encI x.n ++ [101]))))

def rdE (st : RS) : Event × RS :=
  (⟨(rdI (rdS 108 st)).1, (rdI (rdI (rdS 108 st)).2).1, (rdI (rdI (rdI (rdS 108 st)).2).2).1, (rdI (rdI (rdI (rdI (rdS 108 st)).2).2).2).1⟩, rdS 101 (rdI (rdI (rdI (rdI (rdS 108 st)).2).2).2).2)

def decE (s : List UInt8) : Option Event := if rdD (rdE (s, false)).2 = true ∧ eventB (rdE (s, false)).1 = true then some (rdE (s, false)).1 else none

theorem inB_iff {n a b : Int} : inB n a b = true ↔ a ≤ n ∧ n ≤ b := by simp [inB]

theorem eventB_I64 {x : Event} (h : eventB x = true) : I64 x.kind ∧ I64 x.node ∧ I64 x.part ∧ I64 x.n := by
  unfold eventB at h
  unfold I64
  repeat' split at h
  all_goals simp only [Bool.and_eq_true, inB_iff, decide_eq_true_eq, Bool.false_eq_true] at h
  all_goals first | exact h.elim | (refine ⟨⟨?_, ?_⟩, ⟨?_, ?_⟩, ⟨?_, ?_⟩, ⟨?_, ?_⟩⟩ <;> omega)

theorem rdE_sound {st : RS} (h : (rdE st).2.2 = false) : st.2 = false ∧ st.1 = encE (rdE st).1 ++ (rdE st).2.1 := by
  obtain ⟨h1, e1⟩ := rdS_sound h
  obtain ⟨h2, -, e2⟩ := rdI_sound h1
  obtain ⟨h3, -, e3⟩ := rdI_sound h2
  obtain ⟨h4, -, e4⟩ := rdI_sound h3
  obtain ⟨h5, -, e5⟩ := rdI_sound h4
  obtain ⟨h6, e6⟩ := rdS_sound h5
  refine ⟨h6, ?_⟩
  rw [e6, e5, e4, e3, e2, e1]
  simp [encE, rdE]

theorem rdE_enc {x : Event} (h : I64 x.kind ∧ I64 x.node ∧ I64 x.part ∧ I64 x.n) (r : List UInt8) : rdE (encE x ++ r, false) = (x, (r, false)) := by
  obtain ⟨h1, h2, h3, h4⟩ := h
  have e : encE x ++ r = 108 :: (encI x.kind ++ (encI x.node ++ (encI x.part ++ (encI x.n ++ (101 :: r))))) := by simp [encE]
  rw [e]
  unfold rdE
  rw [rdS_enc, rdI_enc h1]
  simp only
  rw [rdI_enc h2]
  simp only
  rw [rdI_enc h3]
  simp only
  rw [rdI_enc h4]
  simp only
  rw [rdS_enc]

theorem decE_iff (s : List UInt8) (x : Event) : decE s = some x ↔ eventB x = true ∧ s = encE x := by
  constructor
  · intro h
    unfold decE at h
    split at h
    · rename_i hc
      simp only [Option.some.injEq] at h
      subst h
      refine ⟨hc.2, ?_⟩
      have hd := hc.1
      unfold rdD at hd
      simp only [Bool.and_eq_true, Bool.not_eq_true', List.isEmpty_iff] at hd
      have := (rdE_sound hd.1).2
      rw [hd.2, List.append_nil] at this
      exact this
    · cases h
  · rintro ⟨h, rfl⟩
    have he := rdE_enc (eventB_I64 h) []
    rw [List.append_nil] at he
    unfold decE
    rw [he]
    simp only
    rw [if_pos ⟨rfl, h⟩]

theorem encE_inj {x y : Event} (hx : eventB x = true) (hy : eventB y = true) (h : encE x = encE y) : x = y := by
  have a := (decE_iff (encE x) x).2 ⟨hx, rfl⟩
  have b := (decE_iff (encE x) y).2 ⟨hy, h⟩
  rw [a] at b
  exact Option.some.inj b
end Go.Proofs.YtcpaaleogmiamaaGreatDoor
namespace Go.Proofs.YtcpaaleogmiamaaGreatDoor
open Go.RowKit

structure Pt where
  epoch : Int
  chain : List Int
  learner : Int
  deriving DecidableEq

structure Pl where
  nodes : Int
  copies : Int
  parts : List Pt
  lives : List (Int × Int)
  deriving DecidableEq

def Pl.zero : Pl := ⟨0, 0, [], []⟩

def intCells (l : List Int) : List Value := l.map (.int .i64 ·)
theorem intCells_length (l : List Int) : (intCells l).length = l.length * 1 := by simp [intCells]
theorem intCells_get (l : List Int) (i : Nat) (h : i < l.length) : (intCells l)[i]? = some (.int .i64 l[i]) := by simp [intCells, h]
def IntsRd (w : World) (v : Value) (l : List Int) : Prop := Rd w 1 v l.length (intCells l)

def lifeCells (l : List (Int × Int)) : List Value := l.flatMap fun x => [.int .i64 x.1, .int .i64 x.2]
theorem lifeCells_length (l : List (Int × Int)) : (lifeCells l).length = l.length * 2 := by
  induction l with
  | nil => rfl
  | cons x l ih => simp only [lifeCells, List.flatMap_cons, List.length_append] at ih ⊢; rw [ih]; simp; omega
theorem lifeCells_get (l : List (Int × Int)) (i : Nat) (h : i < l.length) : (lifeCells l)[i * 2]? = some (.int .i64 l[i].1) ∧ (lifeCells l)[i * 2 + 1]? = some (.int .i64 l[i].2) := by
  induction l generalizing i with
  | nil => simp at h
  | cons x l ih =>
    cases i with
    | zero => simp [lifeCells]
    | succ i =>
      have := ih i (by simpa using h)
      have e : (i + 1) * 2 = i * 2 + 2 := by omega
      have e2 : (i + 1) * 2 + 1 = i * 2 + 1 + 2 := by omega
      simp only [lifeCells, List.flatMap_cons, List.getElem_cons_succ, e] at this ⊢
      refine ⟨?_, ?_⟩
      · rw [List.getElem?_append_right (by simp)]; simpa using this.1
      · rw [List.getElem?_append_right (by simp)]; simpa [Nat.add_right_comm] using this.2
def LivesRd (w : World) (v : Value) (l : List (Int × Int)) : Prop := Rd w 2 v l.length (lifeCells l)

theorem Upd.toBelow {F : Nat → Prop} {N : Nat} {w w' : World} (h : Upd F w w') (hN : N ≤ w.heap.size) (hF : ∀ k, F k → N ≤ k) : Below N w w' :=
  ⟨h.os, h.tape, h.output, h.size, fun k hk => h.block k (by omega) (fun hf => by have := hF k hf; omega)⟩

theorem upd_set1 (w : World) (b o : Nat) (x : Value) : Upd (fun k => k = b) w (w.setCell ⟨b, o, none⟩ x) := upd_setCell (F := fun k => k = b) (Upd.refl _ w) rfl x
theorem upd_set3 (w : World) (b : Nat) (x y z : Value) : Upd (fun k => k = b) w (((w.setCell ⟨b, 0, none⟩ x).setCell ⟨b, 1, none⟩ y).setCell ⟨b, 2, none⟩ z) :=
  ((upd_set1 w b 0 x).trans (upd_set1 _ b 1 y)).trans (upd_set1 _ b 2 z)
theorem upd_set4 (w : World) (b : Nat) (x y z u : Value) : Upd (fun k => k = b) w ((((w.setCell ⟨b, 0, none⟩ x).setCell ⟨b, 1, none⟩ y).setCell ⟨b, 2, none⟩ z).setCell ⟨b, 3, none⟩ u) :=
  (upd_set3 w b x y z).trans (upd_set1 _ b 3 u)

theorem heap_new2 (w : World) (a b c : Obj) : (((w.alloc a).alloc b).alloc c).heap[w.heap.size + 2]? = some c := by
  have := heap_new1 (w.alloc a) b c
  rw [World.size_alloc] at this
  exact this

/-- The cells of a block that is known whole. -/
theorem cells_of {w : World} {b : Nat} {cs : Array Value} {T : TypeId} {fz : Nat × Nat} (h : w.heap[b]? = some (.cells cs T fz)) : ∀ j v, cs[j]? = some v → w.cell? ⟨b, j, none⟩ = some v := by
  intro j v hv
  rw [cell_of_row w b j _ _ _ h]; exact hv
theorem frozen_of {w : World} {b j : Nat} {cs : Array Value} {T : TypeId} (h : w.heap[b]? = some (.cells cs T (0, 0))) : w.frozen? ⟨b, j, none⟩ = false := by
  simp [World.frozen?, h]

/-- The cells of a row of parts, whose chains stand behind the values at the left. -/
def partCells (m : List (Value × Pt)) : List Value := m.flatMap fun x => [.int .i64 x.2.epoch, x.1, .int .i64 x.2.learner]
theorem partCells_length (m : List (Value × Pt)) : (partCells m).length = m.length * 3 := by
  induction m with
  | nil => rfl
  | cons x l ih => simp only [partCells, List.flatMap_cons, List.length_append] at ih ⊢; rw [ih]; simp; omega
theorem partCells_get (l : List (Value × Pt)) (i : Nat) (h : i < l.length) :
    (partCells l)[i * 3]? = some (.int .i64 l[i].2.epoch) ∧ (partCells l)[i * 3 + 1]? = some l[i].1 ∧ (partCells l)[i * 3 + 2]? = some (.int .i64 l[i].2.learner) := by
  induction l generalizing i with
  | nil => simp at h
  | cons x l ih =>
    cases i with
    | zero => simp [partCells]
    | succ i =>
      have := ih i (by simpa using h)
      have e : (i + 1) * 3 = i * 3 + 3 := by omega
      simp only [partCells, List.flatMap_cons, List.getElem_cons_succ, e] at this ⊢
      refine ⟨?_, ?_, ?_⟩
      · rw [List.getElem?_append_right (by simp)]; simpa using this.1
      · rw [List.getElem?_append_right (by simp)]
        have e3 : i * 3 + 3 + 1 - [Value.int .i64 x.2.epoch, x.1, Value.int .i64 x.2.learner].length = i * 3 + 1 := by simp
        rw [e3]; exact this.2.1
      · rw [List.getElem?_append_right (by simp)]
        have e3 : i * 3 + 3 + 2 - [Value.int .i64 x.2.epoch, x.1, Value.int .i64 x.2.learner].length = i * 3 + 2 := by simp
        rw [e3]; exact this.2.2

def PartsRd (w : World) (v : Value) (P : List Pt) : Prop :=
  ∃ m : List (Value × Pt), m.map (·.2) = P ∧ Rd w 3 v m.length (partCells m) ∧ ∀ x ∈ m, IntsRd w x.1 x.2.chain

def PlanRd (w : World) (v : Value) (p : Pl) : Prop :=
  ∃ pv lv, v = .agg #[.int .i64 p.nodes, .int .i64 p.copies, pv, lv] ∧ PartsRd w pv p.parts ∧ LivesRd w lv p.lives

theorem IntsRd.below {w w' : World} {v : Value} {l : List Int} (h : IntsRd w v l) (hb : Below w.heap.size w w') : IntsRd w' v l := Rd.below h hb
theorem LivesRd.below {w w' : World} {v : Value} {l : List (Int × Int)} (h : LivesRd w v l) (hb : Below w.heap.size w w') : LivesRd w' v l := Rd.below h hb
theorem PartsRd.below {w w' : World} {v : Value} {P : List Pt} (h : PartsRd w v P) (hb : Below w.heap.size w w') : PartsRd w' v P := by
  obtain ⟨m, h1, h2, h3⟩ := h
  exact ⟨m, h1, h2.below hb, fun x hx => (h3 x hx).below hb⟩
theorem PlanRd.below {w w' : World} {v : Value} {p : Pl} (h : PlanRd w v p) (hb : Below w.heap.size w w') : PlanRd w' v p := by
  obtain ⟨pv, lv, h1, h2, h3⟩ := h
  exact ⟨pv, lv, h1, h2.below hb, h3.below hb⟩

theorem IntsRd.nil (w : World) : IntsRd w (.slice none 0 0) [] := ⟨rfl, .inl ⟨rfl, rfl⟩⟩
theorem IntsRd.of_owns {w : World} {N e : Nat} {v : Value} {l : List Int} (h : w.ownsRow N e 1 v l.length (intCells l)) : IntsRd w v l := (Sl.of_owns h).rd
theorem LivesRd.of_owns {w : World} {N e : Nat} {v : Value} {l : List (Int × Int)} (h : w.ownsRow N e 2 v l.length (lifeCells l)) : LivesRd w v l := (Sl.of_owns h).rd

theorem IntsRd.cells {w : World} {v : Value} {l : List Int} (h : IntsRd w v l) : ∃ a cap, v = .slice a l.length cap ∧ l.length ≤ cap ∧ l.length ≤ maxLen ∧
    ∀ k (_ : k < l.length), ∃ b off, a = some ⟨b, off, none⟩ ∧ b < w.heap.size ∧ w.cell? ⟨b, off + k, none⟩ = some (.int .i64 l[k]) := by
  obtain ⟨a, cap, rfl, hc⟩ := Rd.shape h
  refine ⟨a, cap, rfl, hc, Rd.maxlen h, ?_⟩
  intro k hk
  obtain ⟨b, off, cap, e, _, _, hb, hc⟩ := Rd.at h (by omega)
  simp only [Value.slice.injEq, true_and] at e
  exact ⟨b, off, e.1, hb, hc _ _ (intCells_get l k hk)⟩

theorem LivesRd.cells {w : World} {v : Value} {l : List (Int × Int)} (h : LivesRd w v l) : ∃ a cap, v = .slice a l.length cap ∧ l.length ≤ cap ∧ l.length ≤ maxLen ∧
    ∀ k (_ : k < l.length), ∃ b off, a = some ⟨b, off, none⟩ ∧ b < w.heap.size ∧ w.cell? ⟨b, off + k * 2, none⟩ = some (.int .i64 l[k].1) ∧ w.cell? ⟨b, off + k * 2 + 1, none⟩ = some (.int .i64 l[k].2) := by
  obtain ⟨a, cap, rfl, hc⟩ := Rd.shape h
  refine ⟨a, cap, rfl, hc, Rd.maxlen h, ?_⟩
  intro k hk
  obtain ⟨b, off, cap, e, _, _, hb, hc⟩ := Rd.at h (by omega)
  simp only [Value.slice.injEq, true_and] at e
  have := lifeCells_get l k hk
  exact ⟨b, off, e.1, hb, hc _ _ this.1, hc (k * 2 + 1) _ this.2⟩

theorem PartsRd.cells {w : World} {v : Value} {P : List Pt} (h : PartsRd w v P) : ∃ a cap, v = .slice a P.length cap ∧ P.length ≤ cap ∧ P.length ≤ maxLen ∧
    ∀ k (_ : k < P.length), ∃ b off ca cc, a = some ⟨b, off, none⟩ ∧ b < w.heap.size ∧ w.cell? ⟨b, off + k * 3, none⟩ = some (.int .i64 P[k].epoch) ∧
      w.cell? ⟨b, off + k * 3 + 1, none⟩ = some (.slice ca P[k].chain.length cc) ∧ w.cell? ⟨b, off + k * 3 + 2, none⟩ = some (.int .i64 P[k].learner) ∧ IntsRd w (.slice ca P[k].chain.length cc) P[k].chain := by
  obtain ⟨m, rfl, hs, hr⟩ := h
  obtain ⟨a, cap, rfl, hcap⟩ := hs.shape
  refine ⟨a, cap, by simp, by simpa using hcap, by simpa using hs.maxlen, ?_⟩
  intro k hk
  have hk' : k < m.length := by simpa using hk
  obtain ⟨b, off, cap, e, _, _, hb, hc⟩ := hs.at (by omega)
  simp only [Value.slice.injEq, true_and] at e
  have hg := partCells_get m k hk'
  have hi := hr _ (List.getElem_mem hk')
  obtain ⟨ca, cc, e2, _⟩ := Rd.shape hi
  have ek : (m.map (·.2))[k] = m[k].2 := by simp
  rw [ek]
  refine ⟨b, off, ca, cc, e.1, hb, hc _ _ hg.1, ?_, hc (k * 3 + 2) _ hg.2.2, by rw [← e2]; exact hi⟩
  have := hc (k * 3 + 1) _ hg.2.1
  rw [e2] at this; exact this

theorem und_int : Tryz.prog.underlying 3 = some (.int .i64) := by kernel_rfl
theorem und_bool : Tryz.prog.underlying 4 = some .bool := by kernel_rfl
theorem und_Ints : Tryz.prog.underlying 22 = some (.slice 3) := by kernel_rfl
theorem und_Parts : Tryz.prog.underlying 50 = some (.slice 36) := by kernel_rfl
theorem und_Lives : Tryz.prog.underlying 37 = some (.slice 134) := by kernel_rfl
theorem und_mapBool : Tryz.prog.underlying 237 = some (.map 3 4) := by kernel_rfl
theorem zero_bool : (Tryz.prog.info? 4).bind (·.zero) = some (.bool false) := by kernel_rfl
theorem info_Int : (Tryz.prog.info? 3).map (fun i => (i.zero, i.size, i.bytes)) = some (some (.int .i64 0), 1, 8) := by kernel_rfl
theorem info_Part : (Tryz.prog.info? 36).map (fun i => (i.zero, i.size, i.bytes)) = some (some (.agg #[.int .i64 0, .slice none 0 0, .int .i64 0]), 3, 40) := by kernel_rfl
theorem info_Life : (Tryz.prog.info? 134).map (fun i => (i.zero, i.size, i.bytes)) = some (some (.agg #[.int .i64 0, .int .i64 0]), 2, 16) := by kernel_rfl

theorem onePart {cv : Value} (h : cv.oneCell' = true) (x y : Int) : ∀ u ∈ [Value.int .i64 x, cv, .int .i64 y], u.oneCell' = true := by
  intro u hu
  simp only [List.mem_cons, List.not_mem_nil, or_false] at hu
  rcases hu with rfl | rfl | rfl
  · rfl
  · exact h
  · rfl

/-- A row of parts that the call owns; the chains of the first k too, each apart from the others. -/
structure OwnK (w : World) (N : Nat) (v : Value) (m : List (Value × Pt)) (k : Nat) : Prop where
  own : w.ownsRow N 36 3 v m.length (partCells m)
  chain : ∀ i (hi : i < m.length), i < k → w.ownsRow N 3 1 m[i].1 m[i].2.chain.length (intCells m[i].2.chain)
  apart : ∀ i j (hi : i < m.length) (hj : j < m.length), i < k → j < k → i ≠ j → ∀ g, m[i].1.ownBlock = some g → m[j].1.ownBlock ≠ some g
abbrev OwnP (w : World) (N : Nat) (v : Value) (m : List (Value × Pt)) : Prop := OwnK w N v m m.length

theorem OwnP.nil (w : World) (N : Nat) : OwnP w N (.slice none 0 0) [] :=
  ⟨World.ownsRow_nil _ _ _ _, fun i hi => absurd hi (Nat.not_lt_zero i), fun i _ hi => absurd hi (Nat.not_lt_zero i)⟩

theorem OwnK.mono {w : World} {N N' : Nat} {v : Value} {m : List (Value × Pt)} {k : Nat} (h : OwnK w N v m k) (hn : N' ≤ N) : OwnK w N' v m k :=
  ⟨owns_mono h.own hn, fun i hi hk => owns_mono (h.chain i hi hk) hn, h.apart⟩

theorem OwnK.upd {w w' : World} {F : Nat → Prop} {N : Nat} {v : Value} {m : List (Value × Pt)} {k : Nat} (h : OwnK w N v m k) (hu : Upd F w w') (h1 : ∀ g, v.ownBlock = some g → ¬ F g)
    (h2 : ∀ i (hi : i < m.length), i < k → ∀ g, m[i].1.ownBlock = some g → ¬ F g) : OwnK w' N v m k :=
  ⟨owns_upd h.own hu h1, fun i hi hk => owns_upd (h.chain i hi hk) hu (h2 i hi hk), h.apart⟩

theorem OwnK.below {w w' : World} {N : Nat} {v : Value} {m : List (Value × Pt)} {k : Nat} (h : OwnK w N v m k) (hb : Below w.heap.size w w') : OwnK w' N v m k :=
  h.upd (F := fun _ => False) (.of_below hb) (fun _ _ h => h) (fun _ _ _ _ _ h => h)

theorem OwnK.low {w w' : World} {F : Nat → Prop} {N : Nat} {v : Value} {m : List (Value × Pt)} {k : Nat} (h : OwnK w N v m k) (hu : Upd F w w') (hF : ∀ k, F k → k < N) : OwnK w' N v m k :=
  h.upd hu (fun g hg hf => by have := (owns_lt h.own g hg).1; have := hF g hf; omega) (fun i hi hk g hg hf => by have := (owns_lt (h.chain i hi hk) g hg).1; have := hF g hf; omega)

theorem OwnK.rd {w : World} {N : Nat} {v : Value} {m : List (Value × Pt)} (h : OwnP w N v m) : PartsRd w v (m.map (·.2)) :=
  ⟨m, rfl, (Sl.of_owns h.own).rd, fun x hx => by obtain ⟨i, hi, rfl⟩ := List.mem_iff_getElem.1 hx; exact IntsRd.of_owns (h.chain i hi hi)⟩

theorem OwnK.snoc {w w5 w7 : World} {N : Nat} {v v' : Value} {m : List (Value × Pt)} (h : OwnP w N v m) (hN : N ≤ w.heap.size) (hb : Below w.heap.size w w5) {cv : Value} {x : Pt}
    (hc : w5.ownsRow w.heap.size 3 1 cv x.chain.length (intCells x.chain)) (hu : Upd (fun k => some k = v.ownBlock) w5 w7)
    (hown : w7.ownsRow N 36 3 v' (m.length + 1) (partCells m ++ [.int .i64 x.epoch, cv, .int .i64 x.learner])) : OwnP w7 N v' (m ++ [(cv, x)]) := by
  have h5 := h.below hb
  have hl : (m ++ [(cv, x)]).length = m.length + 1 := by simp
  have hold : ∀ i (hi : i < m.length) (hi' : i < (m ++ [(cv, x)]).length), (m ++ [(cv, x)])[i] = m[i] := fun i hi _ => List.getElem_append_left hi
  have hnew : ∀ i (hi' : i < (m ++ [(cv, x)]).length), ¬ i < m.length → (m ++ [(cv, x)])[i] = (cv, x) := by
    intro i hi' hn
    have e : i = m.length := by omega
    subst e; simp
  refine ⟨?_, ?_, ?_⟩
  · have e : partCells (m ++ [(cv, x)]) = partCells m ++ [.int .i64 x.epoch, cv, .int .i64 x.learner] := by simp [partCells]
    rw [e, hl]
    exact hown
  · intro i hi _
    by_cases hm : i < m.length
    · rw [hold i hm hi]
      exact owns_upd (h5.chain i hm hm) hu (fun g hg e => owns_types (h5.chain i hm hm) h5.own (by decide) g hg e)
    · rw [hnew i hi hm]
      exact owns_mono (owns_upd hc hu (fun g hg e => owns_types hc h5.own (by decide) g hg e)) hN
  · intro i j hi hj _ _ hne g hg
    by_cases hmi : i < m.length
    · rw [hold i hmi hi] at hg
      by_cases hmj : j < m.length
      · rw [hold j hmj hj]
        exact h.apart i j hmi hmj hmi hmj hne g hg
      · rw [hnew j hj hmj]
        intro hg'
        have h1 := (owns_lt (h.chain i hmi hmi) g hg).2
        have h2 := (owns_lt hc g hg').1
        omega
    · rw [hnew i hi hmi] at hg
      have hmj : j < m.length := by omega
      rw [hold j hmj hj]
      intro hg'
      have h1 := (owns_lt (h.chain j hmj hmj) g hg').2
      have h2 := (owns_lt hc g hg).1
      omega

theorem partCells_set (m : List (Value × Pt)) : ∀ (k : Nat) (hk : k < m.length) (cv : Value) (x : Pt),
    (m[k].1 = cv → m[k].2.learner = x.learner → (partCells m).set (k * 3) (.int .i64 x.epoch) = partCells (m.set k (cv, x))) ∧
    (m[k].2.epoch = x.epoch → m[k].2.learner = x.learner → (partCells m).set (k * 3 + 1) cv = partCells (m.set k (cv, x))) ∧
    (m[k].1 = cv → m[k].2.epoch = x.epoch → (partCells m).set (k * 3 + 2) (.int .i64 x.learner) = partCells (m.set k (cv, x))) := by
  induction m with
  | nil => intro k hk; exact absurd hk (Nat.not_lt_zero k)
  | cons y m ih =>
    intro k hk cv x
    have hc : ∀ (y : Value × Pt) (m : List (Value × Pt)), partCells (y :: m) = .int .i64 y.2.epoch :: y.1 :: .int .i64 y.2.learner :: partCells m := fun _ _ => rfl
    cases k with
    | zero =>
      simp only [List.getElem_cons_zero, List.set_cons_zero, hc]
      refine ⟨?_, ?_, ?_⟩
      · intro h1 h2; simp [h1, h2]
      · intro h1 h2; simp [h1, h2]
      · intro h1 h2; simp [h1, h2]
    | succ k =>
      have := ih k (by simpa using hk) cv x
      have e : (k + 1) * 3 = k * 3 + 3 := by omega
      have e1 : (k + 1) * 3 + 1 = (k * 3 + 1) + 3 := by omega
      have e2 : (k + 1) * 3 + 2 = (k * 3 + 2) + 3 := by omega
      simp only [List.getElem_cons_succ, List.set_cons_succ, hc, e]
      refine ⟨fun h1 h2 => ?_, fun h1 h2 => ?_, fun h1 h2 => ?_⟩
      · rw [this.1 h1 h2]
      · rw [this.2.1 h1 h2]
      · rw [this.2.2 h1 h2]

/-- A part's epoch is written. -/
theorem OwnK.setEpoch {w : World} {N g n cap : Nat} {m : List (Value × Pt)} {k : Nat} (h : OwnK w N (.slice (some ⟨g, 0, none⟩) n cap) m k) (hn : n = m.length) (j : Nat) (hj : j < m.length) (e : Int) :
    OwnK (w.setCell ⟨g, j * 3, none⟩ (.int .i64 e)) N (.slice (some ⟨g, 0, none⟩) n cap) (m.set j (m[j].1, ⟨e, m[j].2.chain, m[j].2.learner⟩)) k := by
  subst hn
  have hs := upd_set1 w g (j * 3) (.int .i64 e)
  have hmem : ∀ i (hi : i < (m.set j (m[j].1, ⟨e, m[j].2.chain, m[j].2.learner⟩)).length), (m.set j (m[j].1, ⟨e, m[j].2.chain, m[j].2.learner⟩))[i].1 = (m[i]'(by simpa using hi)).1 ∧ (m.set j (m[j].1, ⟨e, m[j].2.chain, m[j].2.learner⟩))[i].2.chain = (m[i]'(by simpa using hi)).2.chain := by
    intro i hi
    rw [List.getElem_set]
    by_cases he : j = i
    · subst he; simp
    · simp [he]
  refine ⟨?_, ?_, ?_⟩
  · have := (h.own.stored (j * 3) (.int .i64 e)).1
    rw [(partCells_set m j hj m[j].1 ⟨e, m[j].2.chain, m[j].2.learner⟩).1 rfl rfl] at this
    simpa using this
  · intro i hi hik
    rw [(hmem i hi).1, (hmem i hi).2]
    have hc := h.chain i (by simpa using hi) hik
    exact owns_upd hc hs (fun g' hg e => owns_types hc h.own (by decide) g' hg (by rw [e]; rfl))
  · intro i i' hi hi' hk hk' hne g' hg
    rw [(hmem i hi).1] at hg
    rw [(hmem i' hi').1]
    exact h.apart i i' _ _ hk hk' hne g' hg

/-- A part's learner is written. -/
theorem OwnK.setLearner {w : World} {N g n cap : Nat} {m : List (Value × Pt)} {k : Nat} (h : OwnK w N (.slice (some ⟨g, 0, none⟩) n cap) m k) (hn : n = m.length) (j : Nat) (hj : j < m.length) (e : Int) :
    OwnK (w.setCell ⟨g, j * 3 + 2, none⟩ (.int .i64 e)) N (.slice (some ⟨g, 0, none⟩) n cap) (m.set j (m[j].1, ⟨m[j].2.epoch, m[j].2.chain, e⟩)) k := by
  subst hn
  have hs := upd_set1 w g (j * 3 + 2) (.int .i64 e)
  have hmem : ∀ i (hi : i < (m.set j (m[j].1, ⟨m[j].2.epoch, m[j].2.chain, e⟩)).length), (m.set j (m[j].1, ⟨m[j].2.epoch, m[j].2.chain, e⟩))[i].1 = (m[i]'(by simpa using hi)).1 ∧ (m.set j (m[j].1, ⟨m[j].2.epoch, m[j].2.chain, e⟩))[i].2.chain = (m[i]'(by simpa using hi)).2.chain := by
    intro i hi
    rw [List.getElem_set]
    by_cases he : j = i
    · subst he; simp
    · simp [he]
  refine ⟨?_, ?_, ?_⟩
  · have := (h.own.stored (j * 3 + 2) (.int .i64 e)).1
    rw [(partCells_set m j hj m[j].1 ⟨m[j].2.epoch, m[j].2.chain, e⟩).2.2 rfl rfl] at this
    simpa using this
  · intro i hi hik
    rw [(hmem i hi).1, (hmem i hi).2]
    have hc := h.chain i (by simpa using hi) hik
    exact owns_upd hc hs (fun g' hg e => owns_types hc h.own (by decide) g' hg (by rw [e]; rfl))
  · intro i i' hi hi' hk hk' hne g' hg
    rw [(hmem i hi).1] at hg
    rw [(hmem i' hi').1]
    exact h.apart i i' _ _ hk hk' hne g' hg

/-- A part gets a chain that the call owns, apart from the others'. -/
theorem OwnK.setChain {w : World} {N g n cap : Nat} {m : List (Value × Pt)} {k k' : Nat} (h : OwnK w N (.slice (some ⟨g, 0, none⟩) n cap) m k) (hn : n = m.length) (j : Nat) (hj : j < m.length) (hk' : ∀ i, i < k' → i < k ∨ i = j) {cv : Value} {l : List Int}
    (hc : w.ownsRow N 3 1 cv l.length (intCells l)) (ha : ∀ i (hi : i < m.length), i < k → i ≠ j → ∀ g, m[i].1.ownBlock = some g → cv.ownBlock ≠ some g) :
    OwnK (w.setCell ⟨g, j * 3 + 1, none⟩ cv) N (.slice (some ⟨g, 0, none⟩) n cap) (m.set j (cv, ⟨m[j].2.epoch, l, m[j].2.learner⟩)) k' := by
  subst hn
  have hs := upd_set1 w g (j * 3 + 1) cv
  refine ⟨?_, ?_, ?_⟩
  · have := (h.own.stored (j * 3 + 1) cv).1
    rw [(partCells_set m j hj cv ⟨m[j].2.epoch, l, m[j].2.learner⟩).2.1 rfl rfl] at this
    simpa using this
  · intro i hi hik
    simp only [List.getElem_set]
    by_cases he : j = i
    · subst he
      simp only [if_true]
      exact owns_upd hc hs (fun g' hg e => owns_types hc h.own (by decide) g' hg (by rw [e]; rfl))
    · simp only [if_neg he]
      have hi' : i < m.length := by simpa using hi
      have hc' := h.chain i hi' ((hk' i hik).resolve_right (fun e => he e.symm))
      exact owns_upd hc' hs (fun g' hg e => owns_types hc' h.own (by decide) g' hg (by rw [e]; rfl))
  · intro i i' hi hi' hik hik' hne g' hg
    have q1 : i < m.length := by simpa using hi
    have q2 : i' < m.length := by simpa using hi'
    simp only [List.getElem_set] at hg ⊢
    by_cases he : j = i
    · subst he
      simp only [if_true] at hg
      rw [if_neg hne]
      intro hg'
      exact ha i' q2 ((hk' i' hik').resolve_right (fun e => hne e.symm)) (fun e => hne e.symm) g' hg' hg
    · rw [if_neg he] at hg
      by_cases he' : j = i'
      · subst he'
        simp only [if_true]
        exact ha i q1 ((hk' i hik).resolve_right hne) hne g' hg
      · rw [if_neg he']
        exact h.apart i i' q1 q2 ((hk' i hik).resolve_right (fun e => he e.symm)) ((hk' i' hik').resolve_right (fun e => he' e.symm)) hne g' hg

theorem oneInts (l : List Int) : ∀ u ∈ intCells l, u.oneCell' = true := by
  intro u hu
  simp only [intCells, List.mem_map] at hu
  obtain ⟨x, _, rfl⟩ := hu
  rfl
theorem oneLives (l : List (Int × Int)) : ∀ u ∈ lifeCells l, u.oneCell' = true := by
  intro u hu
  simp only [lifeCells, List.mem_flatMap] at hu
  obtain ⟨x, _, hx⟩ := hu
  simp only [List.mem_cons, List.not_mem_nil, or_false] at hx
  rcases hx with rfl | rfl <;> rfl
end Go.Proofs.YtcpaaleogmiamaaGreatDoor
