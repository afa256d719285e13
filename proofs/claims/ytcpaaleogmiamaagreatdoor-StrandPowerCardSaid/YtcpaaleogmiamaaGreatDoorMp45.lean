/- Arguments that are structs, or slices of structs. -/
/- The walks of plan.place and plan.New. -/
/- The walk of plan.copied. -/
import Derived.Test.YtcpaaleogmiamaaGreatDoorRows
import Derived.Test.YtcpaaleogmiamaaGreatDoorMp5
import Derived.ProofKit
import Derived.OpenShut
import Derived.Deep.Slices
import Derived.Test.YtcpaaleogmiamaaGreatDoorMp20
namespace Go.Proofs.YtcpaaleogmiamaaGreatDoor
open Go.ChangeShapes Go.WideShapes Go.ChangeAt Go.RowKit

theorem Tryz.own : ownKnob Tryz.prog.godebug = none := by kernel_rfl
theorem Tryz.laidOut : laidOutB Tryz.prog = true := by kernel_rfl
theorem cells_int : Tryz.prog.cellsOf 3 = 1 := by kernel_rfl

def fieldsOf (P : Program) (t : TypeId) : List (TypeId × Nat) := match P.underlying t with | some (.struct fs) => fs.toList.map (fun f => (f.type, f.offset)) | _ => []

section
variable {H : Type} {enc : TypeId × Value → H} {P : Program} {W : World}

theorem trod_fields {t : TypeId} {l : List (TypeId × Nat)} (hl : fieldsOf P t = l) (hne : l ≠ []) {fuel : Nat} {cs : List Value} {x : DataW H × List MemPlace}
    (h : DataW.trod enc P W 0 (fun _ => true) true fuel t cs = some x) :
    ∃ n, cs.length = P.cellsOf t ∧ ∀ (i : Nat) (p : TypeId × Nat), l[i]? = some p → ∃ y, DataW.trod enc P W 0 (fun _ => true) true n p.1 ((cs.drop p.2).take (P.cellsOf p.1)) = some y := by
  unfold fieldsOf at hl
  split at hl
  · rename_i fs hfs
    subst hl
    obtain ⟨xs, n, _, _, hlen, hxl, hx⟩ := DataW.trod_struct hfs h
    refine ⟨n, hlen, ?_⟩
    intro i p hp
    rw [List.getElem?_map] at hp
    obtain ⟨f, hf, rfl⟩ := Option.map_eq_some_iff.1 hp
    have hf' : fs[i]? = some f := by simpa using hf
    have hi : i < xs.length := by rw [hxl]; exact (Array.getElem?_eq_some_iff.1 hf').1
    exact ⟨xs[i], by rw [hx i f hf', List.getElem?_eq_getElem hi]⟩
  · exact absurd hl.symm hne

theorem flat_get {α : Type} {f : α → List Value} {sz : Nat} (hz : 0 < sz) (hf : ∀ y, (f y).length = sz) : ∀ (l : List α) (j : Nat), (l.flatMap f)[j]? = (l[j / sz]?).bind fun y => (f y)[j % sz]?
  | [], j => by simp
  | x :: l, j => by
    rw [List.flatMap_cons, List.getElem?_append]
    by_cases h : j < sz
    · rw [hf, if_pos h, Nat.div_eq_of_lt h, Nat.mod_eq_of_lt h]; rfl
    · obtain ⟨k, rfl⟩ : ∃ k, j = k + sz := ⟨j - sz, by omega⟩
      rw [hf, if_neg h, Nat.add_sub_cancel, flat_get hz hf l k, Nat.add_div_right _ hz, Nat.add_mod_right]
      rfl

theorem flat_len {α : Type} {f : α → List Value} {sz : Nat} (hf : ∀ y, (f y).length = sz) : ∀ (l : List α), (l.flatMap f).length = l.length * sz
  | [] => by simp
  | x :: l => by rw [List.flatMap_cons, List.length_append, hf, flat_len hf l, List.length_cons, Nat.add_mul]; omega

theorem rd_of_trod {t e : TypeId} {sz : Nat} (ht : P.underlying t = some (.slice e)) (hsz : P.cellsOf e = sz) (hz : 0 < sz) {α : Type} (f : α → List Value) (Q : α → Prop) (hf : ∀ y, (f y).length = sz)
    (helem : ∀ n cs x, cs.length = sz → DataW.trod enc P W 0 (fun _ => true) true n e cs = some x → ∃ y, cs = f y ∧ Q y)
    {fuel : Nat} {cs : List Value} {x : DataW H × List MemPlace} (h : DataW.trod enc P W 0 (fun _ => true) true fuel t cs = some x) :
    ∃ (v : Value) (l : List α), cs = [v] ∧ Rd W sz v l.length (l.flatMap f) ∧ ∀ y ∈ l, Q y := by
  rcases Deep.open_slice ht h with ⟨rfl, _⟩ | ⟨a, len, cap, m, n, D, Pl, rfl, _, hl, hm, hme, _, hel⟩
  · exact ⟨_, [], rfl, ⟨by simp, .inl ⟨rfl, rfl⟩⟩, by simp⟩
  · have hml : len ≤ m := by rw [hme]; simp; exact hl
    rw [hsz] at hel
    have key : ∀ k, k ≤ len → ∃ l : List α, l.length = k ∧ (∀ y ∈ l, Q y) ∧ ∀ i (hi : i < l.length), ∀ r u, (f l[i])[r]? = some u → W.cell? (a.add (i * sz + r)) = some u := by
      intro k
      induction k with
      | zero => intro _; exact ⟨[], rfl, by simp, fun i hi => absurd hi (Nat.not_lt_zero i)⟩
      | succ k ih =>
        intro hk
        obtain ⟨l, h1, h2, h3⟩ := ih (by omega)
        obtain ⟨cs', hc, htr⟩ := hel k (by omega)
        obtain ⟨_, hlen, hcell⟩ := World.cells?_some hc
        obtain ⟨y, rfl, hq⟩ := helem _ _ _ hlen htr
        refine ⟨l ++ [y], by simp [h1], ?_, ?_⟩
        · intro z hz
          rcases List.mem_append.1 hz with hz | hz
          · exact h2 z hz
          · rw [List.mem_singleton.1 hz]; exact hq
        · intro i hi r u hu
          by_cases hil : i < l.length
          · rw [List.getElem_append_left hil] at hu
            exact h3 i hil r u hu
          · have hik : i = l.length := by simp at hi; omega
            subst hik
            rw [List.getElem_append_right (Nat.le_refl _)] at hu
            simp only [Nat.sub_self, List.getElem_cons_zero] at hu
            obtain ⟨hr, hu'⟩ := List.getElem?_eq_some_iff.1 hu
            have hr' : r < sz := by rw [hf] at hr; exact hr
            have := hcell r hr'
            rw [Deep.add_add] at this
            rw [h1, this]
            exact hu
    obtain ⟨l, h1, h2, h3⟩ := key len (Nat.le_refl _)
    refine ⟨_, l, rfl, ⟨flat_len hf l, .inr ⟨a, cap, by rw [h1], by rw [h1]; exact hl, hm, ?_⟩⟩, h2⟩
    intro j u hj
    rw [flat_get hz hf] at hj
    obtain ⟨y, hy, hu⟩ := Option.bind_eq_some_iff.1 hj
    obtain ⟨hi, rfl⟩ := List.getElem?_eq_some_iff.1 hy
    have := h3 _ hi _ _ hu
    rwa [Nat.mul_comm, Nat.div_add_mod] at this
end

theorem fields_Event : fieldsOf Tryz.prog 58 = [(3, 0), (3, 1), (3, 2), (3, 3)] := by kernel_rfl
theorem cells_Event : Tryz.prog.cellsOf 58 = 4 := by kernel_rfl
theorem isStruct_Event : ∃ fs, Tryz.prog.underlying 58 = some (.struct fs) := ⟨_, Tryz.underlying58⟩

section
variable {H : Type} {enc : TypeId × Value → H} {W : World}

set_option maxRecDepth 100000 in
theorem event_cells4 {n : Nat} {cs : List Value} {x : DataW H × List MemPlace} (hl : cs.length = 4) (ht : DataW.trod enc Tryz.prog W 0 (fun _ => true) true n 58 cs = some x) : ∃ y : Event, cs = [.int .i64 y.kind, .int .i64 y.node, .int .i64 y.part, .int .i64 y.n] := by
  obtain ⟨n', -, hx⟩ := trod_fields fields_Event (by decide) ht
  match cs, hl with
  | [c0, c1, c2, c3], _ =>
    obtain ⟨y0, e0⟩ := hx 0 _ rfl
    obtain ⟨y1, e1⟩ := hx 1 _ rfl
    obtain ⟨y2, e2⟩ := hx 2 _ rfl
    obtain ⟨y3, e3⟩ := hx 3 _ rfl
    simp only [cells_int] at e0 e1 e2 e3
    obtain ⟨z0, g0, _, _⟩ := DataW.trod_int und_int e0
    obtain ⟨z1, g1, _, _⟩ := DataW.trod_int und_int e1
    obtain ⟨z2, g2, _, _⟩ := DataW.trod_int und_int e2
    obtain ⟨z3, g3, _, _⟩ := DataW.trod_int und_int e3
    simp at g0 g1 g2 g3
    subst g0; subst g1; subst g2; subst g3
    exact ⟨⟨z0, z1, z2, z3⟩, rfl⟩

set_option maxRecDepth 100000 in
theorem event_of_trod {v : Value} {d : DataW H} {ps : List MemPlace} {base : Nat} (hv : Value.okWide Tryz.prog W .any base 58 v) (h : DataW.Trod enc Tryz.prog W 0 (fun _ => true) true 58 v d ps) : ∃ y : Event, v = y.v := by
  obtain ⟨fs, hfs⟩ := isStruct_Event
  obtain ⟨cs, rfl, hsz⟩ := okWide_struct hfs hv
  obtain ⟨fuel, hf⟩ := h
  rw [cells_Event] at hsz
  obtain ⟨y, hy⟩ := event_cells4 (by simpa [Value.cells] using hsz) hf
  refine ⟨y, ?_⟩
  have : cs = #[.int .i64 y.kind, .int .i64 y.node, .int .i64 y.part, .int .i64 y.n] := by
    apply Array.toList_inj.1
    simpa [Value.cells] using hy
  rw [this]
  rfl
end
end Go.Proofs.YtcpaaleogmiamaaGreatDoor
namespace Go.Proofs.YtcpaaleogmiamaaGreatDoor
open Go.RowKit

def chainP (p n c : Nat) : List Int := (List.range c).map fun i => (((p + i) % n + 1 : Nat) : Int)
theorem chainP_length (p n c : Nat) : (chainP p n c).length = c := by simp [chainP]
theorem chainP_succ (p n c : Nat) : chainP p n (c + 1) = chainP p n c ++ [(((p + c) % n + 1 : Nat) : Int)] := by simp [chainP, List.range_succ]

def placeP (p n c : Nat) : Pt := ⟨1, chainP p n c, 0⟩

def PlaceOut (w : World) (p n c : Nat) (e : Ending) (w' : World) : Prop :=
  ∃ cv, e = .returned (.agg #[.int .i64 1, cv, .int .i64 0]) ∧ w'.ownsRow w.heap.size 3 1 cv c (intCells (chainP p n c)) ∧ Below w.heap.size w w'

set_option maxRecDepth 100000 in
set_option maxHeartbeats 2000000 in
theorem place_any (p n c : Nat) (w : World) (hn : 0 < n) (hp : p ≤ 1000) (hn2 : n ≤ 1000) (hc : c ≤ 1000) :
    Calls Tryz.prog 130 #[.int .i64 p, .int .i64 n, .int .i64 c] w (PlaceOut w p n c) := by
  obtain ⟨i1, ki, kz0, kz1, kz2⟩ := info_parts info_Int
  have b1 : (p : Int) ≤ 1000 := by omega
  have b2 : (n : Int) ≤ 1000 := by omega
  have b3 : (c : Int) ≤ 1000 := by omega
  go_enter Tryz.func130, Tryz.ntmps130
  go_wp2
  go_loopg [8, 11] c (fun gk _ i wr => ∃ (k : Nat) (cv : Value), k ≤ c ∧ gk = c - k ∧ i = .int .i64 k ∧ wr.ownsRow (w.heap.size + 2) 3 1 cv k (intCells (chainP p n k)) ∧
    wr.heap[w.heap.size + 1]? = some (.cells #[.int .i64 1, cv, .int .i64 0] 36 (0, 0)) ∧ wr.heap[w.heap.size]? = some (.cells #[.int .i64 0, .slice none 0 0, .int .i64 0] 36 (0, 0)) ∧ Below w.heap.size w wr)
  case atStart =>
    refine ⟨0, _, Nat.zero_le _, rfl, rfl, World.ownsRow_nil _ _ _ _, heap_new1 _ _ _, ?_, below_alloc2 _ _ _⟩
    rw [Below.heap_alloc _ _ _ (by simp)]
    exact heap_alloc_new w _
  case round =>
    obtain ⟨k, cv, hk, rfl, rfl, hown, hx, h0, hbel⟩ := hrel
    have HX := Lib.hid (And.intro hown (And.intro hx (And.intro h0 hbel)))
    have hsz := hbel.size
    have hxlt : w.heap.size + 1 < wr.heap.size := (Array.getElem?_eq_some_iff.1 hx).1
    clear hown h0 hbel
    by_cases hlt : k < c
    · have i1' : (k : Int) < (c : Int) := by omega
      have i2 : (0 : Int) ≤ (k : Int) := by omega
      have e1 : IntKind.i64.wrap ((p : Int) + (k : Int)) = ((p + k : Nat) : Int) := by rw [IntWalk.i64_in _ (by omega)]; omega
      have hmod : (p + k) % n < n := Nat.mod_lt _ hn
      have e3 : IntKind.i64.wrap (((p : Int) + (k : Int)).tmod (n : Int) + 1) = (((p + k) % n + 1 : Nat) : Int) := by
        have : ((p : Int) + (k : Int)).tmod (n : Int) = (((p + k) % n : Nat) : Int) := by rw [Int.tmod_eq_emod_of_nonneg (by omega)]; push_cast; rfl
        rw [this, IntWalk.i64_in _ (by omega)]; omega
      have hn0 : ¬ n = 0 := by omega
      have hsucc := chainP_succ p n k
      generalize ((p + k) % n + 1 : Nat) = y at *
      have c1 : wr.cell? ⟨w.heap.size + 1, 1, none⟩ = some cv := by rw [cell_of_row wr _ 1 _ _ _ hx]; rfl
      have hkeep : ∀ w', Upd (fun b => some b = cv.ownBlock) wr w' → w'.cell? ⟨w.heap.size + 1, 1, none⟩ = some cv ∧ w'.frozen? ⟨w.heap.size + 1, 1, none⟩ = false := by
        intro w' hu
        have hne : ¬ some (w.heap.size + 1) = cv.ownBlock := fun e => by have := (owns_lt HX.out.1 _ e.symm).1; omega
        have hbk := hu.block _ hxlt hne
        refine ⟨(World.cell?_of_block hbk).trans c1, (World.frozen?_of_block hbk).trans ?_⟩
        simp [World.frozen?, hx]
      have HK := Lib.hid hkeep
      clear hkeep hx
      have hb2 : w.heap.size + 2 ≤ wr.heap.size + 1 := by omega
      have hs2 : intCells (chainP p n (k + 1)) = intCells (chainP p n k) ++ [.int .i64 (y : Int)] := by rw [hsucc]; simp [intCells]
      generalize hX : w.heap.size + 1 = X at *
      have HHX := Lib.hid (And.intro hX hs2)
      clear hX hs2 hsucc
      go_wp2
      have ca : ∀ o, (wr.alloc o).cell? ⟨X, 1, none⟩ = some cv := fun o => (HK.out _ (upd_alloc _ wr o)).1
      go_region_law
        (first
          | (refine step_append_lies _ (by rfl) _ _ _ (by rfl) (w.heap.size + 2) 3 i1 _ 1 8 und_Ints ki kz0 kz1 kz2 rfl (by omega) cv k (intCells (chainP p n k)) (by rfl) (HX.out.1.alloc _) ⟨wr.heap.size, 0, none⟩ 1 1 [.int .i64 (y : Int)] (by rfl) (by rfl) (World.news_of_block (cs := #[.int .i64 (y : Int)]) (t := 3) (fr := (0, 0)) (heap_alloc_new wr _)) (by simp [Value.oneCell']) (by omega) ?_ ?_ ?_ _ rfl ?_; (unfold maxLen; omega); omega; (first | (simp only [World.size_alloc, World.size_drew]; omega) | omega); rintro g9 gcap9 w9 hown9 hgrow9 - hlt9; obtain ⟨c9, f9⟩ := HK.out w9 (((upd_alloc _ wr _).trans (upd_drew _ _)).trans (upd_grown hgrow9))))
      all_goals
        have hu9 := ((upd_alloc (fun b => some b = cv.ownBlock) wr (.cells #[.int .i64 (y : Int)] 3)).trans (upd_drew _ _)).trans (upd_grown hgrow9)
        have HY := Lib.hid (And.intro hown9 hu9)
        clear hown9 hu9 hgrow9 c9 f9 ca c1
        go_wp2
        go_roundg (c - (k + 1))
        case measure => omega
        case rel =>
          have hX := HHX.out.1
          have hlo := owns_lt HY.out.1 g9 rfl
          have hne : ¬ some X = cv.ownBlock := fun e => by have := (owns_lt HX.out.1 _ e.symm).1; omega
          have hneN : ¬ some w.heap.size = cv.ownBlock := fun e => by have := (owns_lt HX.out.1 _ e.symm).1; omega
          have hx9 := (HY.out.2.block X hxlt hne).trans HX.out.2.1
          have h09 := (HY.out.2.block w.heap.size (by omega) hneN).trans HX.out.2.2.1
          have hset := upd_setCell (F := fun b => b = X) (Upd.refl _ w9) (b := X) (o := 1) rfl (.slice (some ⟨g9, 0, none⟩) (k + 1) gcap9)
          refine ⟨k + 1, .slice (some ⟨g9, 0, none⟩) (k + 1) gcap9, by omega, rfl, by go_num, ?_, ?_, ?_, ?_⟩
          · rw [HHX.out.2]
            exact owns_upd HY.out.1 hset (fun g hg e => by have := (owns_lt HY.out.1 g hg).1; omega)
          · exact setCell_same hx9
          · rw [hset.block w.heap.size (by have := HY.out.2.size; omega) (by omega)]
            exact h09
          · exact HX.out.2.2.2.trans ((HY.out.2.toBelow hsz (fun b e => by have := (owns_lt HX.out.1 b e.symm).1; omega)).trans (hset.toBelow (by have := HY.out.2.size; omega) (fun b e => by omega)))
    · have i1' : ¬ (k : Int) < (c : Int) := by omega
      have hkc : k = c := by omega
      subst hkc
      obtain ⟨ca, cc, rfl, -⟩ := (Sl.of_owns HX.out.1).shape
      have hx := HX.out.2.1
      have h0 := HX.out.2.2.1
      have d0 := cells_of hx 0 _ rfl
      have d1 := cells_of hx 1 _ rfl
      have d2 := cells_of hx 2 _ rfl
      have n0 := cells_of h0 0 _ rfl
      have n1 := cells_of h0 1 _ rfl
      have n2 := cells_of h0 2 _ rfl
      have f0 := frozen_of (j := 0) h0
      have f1 := frozen_of (j := 1) h0
      have f2 := frozen_of (j := 2) h0
      have HH := Lib.hid h0
      clear hx h0
      go_wp2
      have hf := setCell_same (o := 2) (v := .int .i64 0) (setCell_same (o := 1) (v := .slice ca k cc) (setCell_same (o := 0) (v := .int .i64 1) HH.out))
      have r0 := cells_of hf 0 _ rfl
      have r1 := cells_of hf 1 _ rfl
      have r2 := cells_of hf 2 _ rfl
      refine bodyPost_ret (v := .agg #[.int .i64 1, .slice ca k cc, .int .i64 0]) (by simp [results, Tryz.results130, go_sem, r0, r1, r2]) rfl ⟨_, rfl, ?_, ?_⟩
      · have hset3 := upd_set3 wr w.heap.size (.int .i64 1) (.slice ca k cc) (.int .i64 0)
        exact owns_mono (owns_upd HX.out.1 hset3 (fun g hg e => by have := (owns_lt HX.out.1 g hg).1; omega)) (by omega)
      · have hset3 := upd_set3 wr w.heap.size (.int .i64 1) (.slice ca k cc) (.int .i64 0)
        exact HX.out.2.2.2.trans (hset3.toBelow hsz (fun b e => by omega))
end Go.Proofs.YtcpaaleogmiamaaGreatDoor
namespace Go.Proofs.YtcpaaleogmiamaaGreatDoor
open Go.RowKit

abbrev planV (p : Pl) (pa : Option Addr) (pc : Nat) (la : Option Addr) (lc : Nat) : Value := .agg #[.int .i64 p.nodes, .int .i64 p.copies, .slice pa p.parts.length pc, .slice la p.lives.length lc]

theorem upd_thenBelowC {F : Nat → Prop} {a b c : World} (h : Upd F a b) (hb : Below a.heap.size b c) : Upd F a c :=
  ⟨hb.os.trans h.os, hb.tape.trans h.tape, hb.output.trans h.output, Nat.le_trans h.size hb.size, fun k hk hf => (hb.block k hk).trans (h.block k hk hf)⟩

structure SmallP (p : Pl) : Prop where
  parts : p.parts.length ≤ 1000
  lives : p.lives.length ≤ 1000
  chain : ∀ x ∈ p.parts, x.chain.length ≤ 1000

theorem ints_one {w : World} {v : Value} {l : List Int} (h : IntsRd w v l) : v.oneCell' = true := by
  obtain ⟨a, c, rfl, -⟩ := Rd.shape h
  rfl

theorem parts_one {w : World} {m : List (Value × Pt)} (h : ∀ x ∈ m, IntsRd w x.1 x.2.chain) : ∀ u ∈ partCells m, u.oneCell' = true := by
  intro u hu
  simp only [partCells, List.mem_flatMap] at hu
  obtain ⟨x, hx, hu⟩ := hu
  exact onePart (ints_one (h x hx)) _ _ u hu

set_option maxRecDepth 100000 in
set_option maxHeartbeats 4000000 in
theorem copied_any {w : World} {p : Pl} {pa la : Option Addr} {pc lc : Nat} (hp : PartsRd w (.slice pa p.parts.length pc) p.parts) (hl : LivesRd w (.slice la p.lives.length lc) p.lives) (hs : SmallP p) :
    Calls Tryz.prog 80 #[planV p pa pc la lc] w fun e w' =>
      ∃ (pa' la' : Option Addr) (pc' lc' : Nat) (m : List (Value × Pt)), e = .returned (planV p pa' pc' la' lc') ∧ m.map (·.2) = p.parts ∧ OwnP w' w.heap.size (.slice pa' p.parts.length pc') m ∧
        w'.ownsRow w.heap.size 134 2 (.slice la' p.lives.length lc') p.lives.length (lifeCells p.lives) ∧ Below w.heap.size w w' := by
  obtain ⟨nodes, copies, P, L⟩ := p
  obtain ⟨hs1, hs2, hs3⟩ := hs
  simp only at hp hl hs1 hs2 hs3 ⊢
  obtain ⟨m0, hm0, hrd, hch⟩ := hp
  have hlen : m0.length = P.length := by rw [← hm0]; simp
  rw [hlen] at hrd
  have hone := parts_one hch
  have W0 : ∃ W, W = (w.alloc (.cells #[.int .i64 nodes, .int .i64 copies, .slice pa P.length pc, .slice la L.length lc] 52)).alloc (.cells #[.int .i64 0, .int .i64 0, .slice none 0 0, .slice none 0 0] 52) := ⟨_, rfl⟩
  obtain ⟨wa, hwa⟩ := W0
  have hbwa : Below w.heap.size w wa := by rw [hwa]; exact below_alloc2 _ _ _
  have hsz : wa.heap.size = w.heap.size + 2 := by rw [hwa]; simp
  have hN : wa.heap[w.heap.size]? = some (.cells #[.int .i64 nodes, .int .i64 copies, .slice pa P.length pc, .slice la L.length lc] 52 (0, 0)) := by
    rw [hwa, Below.heap_alloc _ _ _ (by simp)]; exact heap_alloc_new _ _
  have hN1 : wa.heap[w.heap.size + 1]? = some (.cells #[.int .i64 0, .int .i64 0, .slice none 0 0, .slice none 0 0] 52 (0, 0)) := by
    rw [hwa]; exact heap_new1 _ _ _
  have hkeep : ∀ W, Below wa.heap.size wa W → W.cell? ⟨w.heap.size, 2, none⟩ = some (.slice pa P.length pc) ∧ W.cell? ⟨w.heap.size, 3, none⟩ = some (.slice la L.length lc) ∧ W.frozen? ⟨w.heap.size, 2, none⟩ = false ∧ W.frozen? ⟨w.heap.size, 3, none⟩ = false := by
    intro W hb
    have := (hb.block w.heap.size (by omega)).trans hN
    exact ⟨cells_of this 2 _ rfl, cells_of this 3 _ rfl, frozen_of this, frozen_of this⟩
  have hpr : ∀ W, Below wa.heap.size wa W → Rd W 3 (.slice pa P.length pc) m0.length (partCells m0) := fun W hb => by rw [hlen]; exact (hrd.below hbwa).below hb
  have hlr : ∀ W, Below wa.heap.size wa W → LivesRd W (.slice la L.length lc) L := fun W hb => (hl.below hbwa).below hb
  have HK := Lib.hid hkeep
  have HPR := Lib.hid hpr
  have HLR := Lib.hid hlr
  have HM := Lib.hid (And.intro hm0 (And.intro hch (And.intro hN (And.intro hN1 (And.intro hbwa hsz)))))
  have HONE := Lib.hid hone
  have HS3 := Lib.hid hs3
  obtain ⟨n2, n3, f2, f3⟩ := hkeep wa (Below.refl _ _)
  have hlm : m0.length ≤ 1000000 := by omega
  have hlL : L.length ≤ 1000000 := by omega
  clear hkeep hpr hlr hrd hch hone hl hs3 hm0 hN hN1
  go_enter Tryz.func80, Tryz.ntmps80
  go_upto_region 1 with fail
  rw [← hwa]
  clear hwa
  go_cut [6] from 4 to 11 (fun _ wx => ∃ (pa' la' : Option Addr) (pc' lc' : Nat), wx.ownsRow wa.heap.size 36 3 (.slice pa' P.length pc') P.length (partCells m0) ∧ wx.ownsRow wa.heap.size 134 2 (.slice la' L.length lc') L.length (lifeCells L) ∧
    wx.heap[w.heap.size]? = some (.cells #[.int .i64 nodes, .int .i64 copies, .slice pa' P.length pc', .slice la' L.length lc'] 52 (0, 0)) ∧ Upd (fun b => b = w.heap.size) wa wx)
  case first =>
    go_region_law
      (first
        | (go_simp; go_at_call 72; refine (CloneParts_any (HPR.out _ ?_) HONE.out hlm).mono ?_; (first | with_reducible exact (Below.refl _ _).drew | with_reducible exact hwL); rintro e w5 ⟨v5, rfl, hown5, hb5⟩; rw [hlen] at hown5; obtain ⟨a5, q5, rfl, -⟩ := (Sl.of_owns hown5).shape; have hwP : Below wa.heap.size wa w5 := (by first | exact (Below.refl _ wa).drew.trans (hb5.mono (Nat.le_refl _)) | exact hwL.trans (hb5.mono hwL.size)); obtain ⟨c52, c53, e52, e53⟩ := HK.out w5 hwP)
        | (go_simp; go_at_call 71; refine (CloneLives_any (HLR.out _ ?_) hlL).mono ?_; (first | with_reducible exact (Below.refl _ _).drew | with_reducible exact hwP); rintro e w6 ⟨v6, rfl, hown6, hb6⟩; obtain ⟨a6, q6, rfl, -⟩ := (Sl.of_owns hown6).shape; have hwL : Below wa.heap.size wa w6 := (by first | exact (Below.refl _ wa).drew.trans (hb6.mono (Nat.le_refl _)) | exact hwP.trans (hb6.mono hwP.size)); obtain ⟨c62, c63, e62, e63⟩ := HK.out w6 hwL))
    all_goals
      have z5 : w6.ownsRow wa.heap.size 36 3 (.slice a5 P.length q5) P.length (partCells m0) := owns_upd (owns_mono hown5 (Nat.le_refl _)) (Upd.of_below (F := fun _ => False) hb6) (fun _ _ h => h)
      have z6 : w6.ownsRow wa.heap.size 134 2 (.slice a6 L.length q6) L.length (lifeCells L) := owns_mono hown6 hwP.size
      have zs := (upd_set1 w6 w.heap.size 2 (.slice a5 P.length q5)).trans (upd_set1 _ w.heap.size 3 (.slice a6 L.length q6))
      have zN := (hwL.block w.heap.size (by omega)).trans HM.out.2.2.1
      have HZ := Lib.hid (And.intro z5 (And.intro z6 (And.intro zs (And.intro zN hwL))))
      clear z5 z6 zs zN hwL hwP hown5 hown6 hb5 hb6
      go_wp2_with fail
      go_meet
      obtain ⟨z5, z6, zs, zN, hwL⟩ := HZ.out
      exact ⟨a5, a6, q5, q6, owns_upd z5 zs (fun g hg e => by have := (owns_lt z5 g hg).1; omega), owns_upd z6 zs (fun g hg e => by have := (owns_lt z6 g hg).1; omega), setCell_same (setCell_same zN), (Upd.of_below hwL).trans zs⟩
  case rest =>
    obtain ⟨pa', la', pc', lc', hP, hL, hN', hu1⟩ := hcut
    have hown0 : OwnK wc wa.heap.size (.slice pa' P.length pc') m0 0 := ⟨by rw [hlen]; exact hP, fun i _ hi => absurd hi (Nat.not_lt_zero i), fun i j _ _ hi => absurd hi (Nat.not_lt_zero i)⟩
    have H0 := Lib.hid (And.intro hown0 (And.intro hL (And.intro hN' hu1)))
    have n2' := cells_of hN' 2 _ rfl
    clear hP hL hu1 hown0 hN' n2 n3 f2 f3
    go_wp2
    go_loopg [3, 15] P.length (fun gk _ i wx => ∃ (k : Nat) (m : List (Value × Pt)), k ≤ P.length ∧ gk = P.length - k ∧ i = .int .i64 k ∧ m.map (·.2) = P ∧ (∀ i (h1 : i < m.length) (h2 : i < m0.length), k ≤ i → m[i].1 = m0[i].1) ∧
      OwnK wx wa.heap.size (.slice pa' P.length pc') m k ∧ wx.ownsRow wa.heap.size 134 2 (.slice la' L.length lc') L.length (lifeCells L) ∧
      wx.heap[w.heap.size]? = some (.cells #[.int .i64 nodes, .int .i64 copies, .slice pa' P.length pc', .slice la' L.length lc'] 52 (0, 0)) ∧ Upd (fun b => b = w.heap.size) wa wx)
    case atStart =>
      exact ⟨0, m0, Nat.zero_le _, rfl, rfl, HM.out.1, fun _ _ _ _ => rfl, H0.out.1, H0.out.2.1, H0.out.2.2.1, H0.out.2.2.2⟩
    case round =>
      clear n2' H0
      obtain ⟨k, m, hk, rfl, rfl, hmp, hrest, hown, hL, hN', hu1⟩ := hrel
      have HX := Lib.hid (And.intro hmp (And.intro hrest (And.intro hown (And.intro hL (And.intro hN' hu1)))))
      have hsz1 := hu1.size
      have hml : m.length = P.length := by rw [← hmp]; simp
      have n2' := cells_of hN' 2 _ rfl
      by_cases hlt : k < P.length
      · have hkm : k < m.length := by omega
        have hkm0 : k < m0.length := by omega
        have e1 := hrest k hkm hkm0 (Nat.le_refl _)
        have e2 : m0[k].2 = P[k] := by simp [← HM.out.1]
        have e3 : m[k].2 = P[k] := by simp [← hmp]
        have hchk := HM.out.2.1 _ (List.getElem_mem hkm0)
        have hc3 := HS3.out _ (List.getElem_mem hlt)
        rw [e2] at hchk
        obtain ⟨ca, cc, e4, -⟩ := Rd.shape hchk
        rw [e4] at hchk e1
        obtain ⟨g, hpa⟩ : ∃ g, pa' = some ⟨g, 0, none⟩ := by
          rcases hown.own.2 with ⟨h1, h2⟩ | ⟨g, cap, cur, h1, -⟩
          · omega
          · simp only [Value.slice.injEq] at h1; exact ⟨g, h1.1⟩
        subst hpa
        have hpg := partCells_get m k hkm
        have hbelr : Below w.heap.size w wr := hbwa.trans (hu1.toBelow (by omega) (fun b e => by omega))
        have hchr := hchk.below hbelr
        have hglo := owns_lt hown.own g rfl
        have hown' : wr.ownsRow wa.heap.size 36 3 (.slice (some ⟨g, 0, none⟩) P.length pc') P.length (partCells m) := by have := hown.own; rw [hml] at this; exact this
        have hkeep : ∀ W, Below wr.heap.size wr W → W.cell? ⟨w.heap.size, 2, none⟩ = some (.slice (some ⟨g, 0, none⟩) P.length pc') ∧ W.cell? ⟨g, k * 3 + 1, none⟩ = some (.slice ca P[k].chain.length cc) ∧ W.frozen? ⟨g, k * 3 + 1, none⟩ = false := by
          intro W hb
          have hN2 := (hb.block w.heap.size (by omega)).trans hN'
          have ho := owns_upd hown' (Upd.of_below (F := fun _ => False) hb) (fun _ _ h => h)
          refine ⟨cells_of hN2 2 _ rfl, ?_, ho.frozenAt _⟩
          rw [ho.cellAt _ (by omega), hpg.2.1, e1]
        have hchW : ∀ W, Below wr.heap.size wr W → IntsRd W (.slice ca P[k].chain.length cc) P[k].chain := fun W hb => hchr.below hb
        have htk : ∀ cv, (m.set k (cv, ⟨m[k].2.epoch, P[k].chain, m[k].2.learner⟩)).map (·.2) = P := by
          intro cv
          have : (⟨m[k].2.epoch, P[k].chain, m[k].2.learner⟩ : Pt) = P[k] := by rw [e3]
          rw [this, List.map_set, hmp]
          exact List.set_getElem_self _
        obtain ⟨n2r, cr, fr⟩ := hkeep wr (Below.refl _ _)
        have HK2 := Lib.hid hkeep
        have HCH := Lib.hid hchW
        have HT := Lib.hid htk
        have HC3 := Lib.hid hc3
        clear hkeep hchW htk hchk hchr hc3 hown hL hN' hmp hrest hu1 hpg e1 e2 e3 e4 hown'
        generalize P[k].chain = ch at *
        have i1 : (k : Int) < (P.length : Int) := by omega
        have i2 : (0 : Int) ≤ (k : Int) := by omega
        have hne : g ≠ w.heap.size := by omega
        go_wp2
        go_region_law
          (first
            | (go_simp; go_at_call 73; refine (CloneInts_any (HCH.out _ (Below.refl _ _).drew) (by have := HC3.out; omega)).mono ?_; rintro e w5 ⟨v5, rfl, hown5, hb5⟩; obtain ⟨a5, q5, rfl, -⟩ := (Sl.of_owns hown5).shape; have hw5 : Below wr.heap.size wr w5 := (Below.refl _ wr).drew.trans (hb5.mono (Nat.le_refl _)); obtain ⟨c52, c53, e53⟩ := HK2.out w5 hw5))
        all_goals
          have z5 := owns_mono (base' := wr.heap.size) hown5 (Nat.le_refl _)
          have HZ := Lib.hid (And.intro z5 hw5)
          clear z5 hw5 hown5 hb5 c52 c53 e53 n2r cr fr
          go_wp2
          go_roundg (P.length - (k + 1))
          case measure => omega
          case rel =>
            obtain ⟨z5, hw5⟩ := HZ.out
            obtain ⟨q1, q2, q3, q4, q5', q6⟩ := HX.out
            have hs := upd_set1 w5 g (k * 3 + 1) (.slice a5 ch.length q5)
            refine ⟨k + 1, m.set k (.slice a5 ch.length q5, ⟨m[k].2.epoch, ch, m[k].2.learner⟩), by omega, rfl, by go_num, HT.out _, ?_, ?_, ?_, ?_, ?_⟩
            · intro i h1 h2 hki
              rw [List.getElem_set, if_neg (by omega)]
              exact q2 i (by simpa using h1) h2 (by omega)
            · exact (q3.below hw5).setChain (by omega) k hkm (by omega) (owns_mono z5 (by omega)) (fun i hi hik _ g' hg' hg2 => by
                have := (owns_lt (q3.chain i hi hik) g' hg').2
                have := (owns_lt z5 g' hg2).1
                omega)
            · have h4 := owns_upd q4 (Upd.of_below (F := fun _ => False) hw5) (fun _ _ h => h)
              have h3 := owns_upd q3.own (Upd.of_below (F := fun _ => False) hw5) (fun _ _ h => h)
              exact owns_upd h4 hs (fun g' hg' e => owns_types h4 h3 (by decide) g' hg' (by rw [e]; rfl))
            · rw [hs.block _ (by have := hw5.size; omega) (by omega), hw5.block _ (by omega)]
              exact q5'
            · exact upd_thenBelowC q6 ((hw5.mono hsz1).trans (hs.toBelow (by have := hw5.size; omega) (fun b e => by omega)))
      · have i1 : ¬ (k : Int) < (P.length : Int) := by omega
        have hkP : k = m.length := by omega
        subst hkP
        have x0 := cells_of hN' 0 _ rfl
        have x1 := cells_of hN' 1 _ rfl
        have x3 := cells_of hN' 3 _ rfl
        have hN1 := (hu1.block (w.heap.size + 1) (by omega) (by omega)).trans HM.out.2.2.2.1
        have y0 := cells_of hN1 0 _ rfl
        have y1 := cells_of hN1 1 _ rfl
        have y2 := cells_of hN1 2 _ rfl
        have y3 := cells_of hN1 3 _ rfl
        have g0 := frozen_of (j := 0) hN1
        have g1 := frozen_of (j := 1) hN1
        have g2 := frozen_of (j := 2) hN1
        have g3 := frozen_of (j := 3) hN1
        have HN1 := Lib.hid hN1
        clear hmp hrest hown hL hN' hu1 hN1
        go_wp2
        have hf := setCell_same (o := 3) (v := .slice la' L.length lc') (setCell_same (o := 2) (v := .slice pa' P.length pc') (setCell_same (o := 1) (v := .int .i64 copies) (setCell_same (o := 0) (v := .int .i64 nodes) HN1.out)))
        have r0 := cells_of hf 0 _ rfl
        have r1 := cells_of hf 1 _ rfl
        have r2 := cells_of hf 2 _ rfl
        have r3 := cells_of hf 3 _ rfl
        have hset := upd_set4 wr (w.heap.size + 1) (.int .i64 nodes) (.int .i64 copies) (.slice pa' P.length pc') (.slice la' L.length lc')
        obtain ⟨q1, q2, q3, q4, q5, q6⟩ := HX.out
        refine bodyPost_ret (v := .agg #[.int .i64 nodes, .int .i64 copies, .slice pa' P.length pc', .slice la' L.length lc']) (by simp [results, Tryz.results80, go_sem, r0, r1, r2, r3]) rfl ⟨pa', la', pc', lc', rfl, m, q1, ?_, ?_, ?_⟩
        · exact (q3.low hset (fun b e => by omega)).mono (by omega)
        · exact owns_mono (owns_upd q4 hset (fun g hg e => by have := (owns_lt q4 g hg).1; omega)) (by omega)
        · exact hbwa.trans ((q6.toBelow (by omega) (fun b e => by omega)).trans (hset.toBelow (by omega) (fun b e => by omega)))
end Go.Proofs.YtcpaaleogmiamaaGreatDoor
