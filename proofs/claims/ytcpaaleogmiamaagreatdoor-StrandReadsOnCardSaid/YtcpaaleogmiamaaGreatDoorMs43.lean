/- Arguments that are structs, or slices of structs. -/
/- The walks of plan.place and plan.New. -/
import Derived.Test.YtcpaaleogmiamaaGreatDoorRows
import Derived.Test.YtcpaaleogmiamaaGreatDoorMs6
import Derived.ProofKit
import Derived.OpenShut
import Derived.Deep.Slices
namespace Go.Proofs.YtcpaaleogmiamaaGreatDoor
open Go.ChangeShapes Go.WideShapes Go.ChangeAt Go.RowKit

theorem Tryz.own : ownKnob Tryz.prog.godebug = none := by kernel_rfl
theorem Tryz.laidOut : laidOutB Tryz.prog = true := by kernel_rfl
theorem cells_int : Tryz.prog.cellsOf 3 = 1 := by kernel_rfl

def fieldsOf (P : Program) (t : TypeId) : List (TypeId × Nat) := match P.underlying t with | some (.struct fs) => fs.toList.map (fun f => (f.type, f.offset)) | _ => []

section
variable {H : Type} {enc : TypeId × Value → H} {P : Program} {W : World}

theorem trod_fields {t : TypeId} {l : List (TypeId × Nat)} (hl : fieldsOf P t = l) (hne : l ≠ []) {fuel : Nat} {cs : List Value} {x : DataW H × List MemPlace}
    (h : DataW.trod enc P W 0 (fun _ => true) true fuel t cs = some x) :
    ∃ n, cs.length = P.cellsOf t ∧ ∀ (i : Nat) (p : TypeId × Nat), l[i]? = some p → ∃ y, DataW.trod enc P W 0 (fun _ => true) true n p.1 ((cs.drop p.2).take (P.cellsOf p.1)) = some y := by
  unfold fieldsOf at hl
  split at hl
  · rename_i fs hfs
    subst hl
    obtain ⟨xs, n, _, _, hlen, hxl, hx⟩ := DataW.trod_struct hfs h
    refine ⟨n, hlen, ?_⟩
    intro i p hp
    rw [List.getElem?_map] at hp
    obtain ⟨f, hf, rfl⟩ := Option.map_eq_some_iff.1 hp
    have hf' : fs[i]? = some f := by simpa using hf
    have hi : i < xs.length := by rw [hxl]; exact (Array.getElem?_eq_some_iff.1 hf').1
    exact ⟨xs[i], by rw [hx i f hf', List.getElem?_eq_getElem hi]⟩
  · exact absurd hl.symm hne

theorem flat_get {α : Type} {f : α → List Value} {sz : Nat} (hz : 0 < sz) (hf : ∀ y, (f y).length = sz) : ∀ (l : List α) (j : Nat), (l.flatMap f)[j]? = (l[j / sz]?).bind fun y => (f y)[j % sz]?
  | [], j => by simp
  | x :: l, j => by
    rw [List.flatMap_cons, List.getElem?_append]
    by_cases h : j < sz
    · rw [hf, if_pos h, Nat.div_eq_of_lt h, Nat.mod_eq_of_lt h]; rfl
    · obtain ⟨k, rfl⟩ : ∃ k, j = k + sz := ⟨j - sz, by omega⟩
      rw [hf, if_neg h, Nat.add_sub_cancel, flat_get hz hf l k, Nat.add_div_right _ hz, Nat.add_mod_right]
      rfl

theorem flat_len {α : Type} {f : α → List Value} {sz : Nat} (hf : ∀ y, (f y).length = sz) : ∀ (l : List α), (l.flatMap f).length = l.length * sz
  | [] => by simp
  | x :: l => by rw [List.flatMap_cons, List.length_append, hf, flat_len hf l, List.length_cons, Nat.add_mul]; omega

theorem rd_of_trod {t e : TypeId} {sz : Nat} (ht : P.underlying t = some (.slice e)) (hsz : P.cellsOf e = sz) (hz : 0 < sz) {α : Type} (f : α → List Value) (Q : α → Prop) (hf : ∀ y, (f y).length = sz)
    (helem : ∀ n cs x, cs.length = sz → DataW.trod enc P W 0 (fun _ => true) true n e cs = some x → ∃ y, cs = f y ∧ Q y)
    {fuel : Nat} {cs : List Value} {x : DataW H × List MemPlace} (h : DataW.trod enc P W 0 (fun _ => true) true fuel t cs = some x) :
    ∃ (v : Value) (l : List α), cs = [v] ∧ Rd W sz v l.length (l.flatMap f) ∧ ∀ y ∈ l, Q y := by
  rcases Deep.open_slice ht h with ⟨rfl, _⟩ | ⟨a, len, cap, m, n, D, Pl, rfl, _, hl, hm, hme, _, hel⟩
  · exact ⟨_, [], rfl, ⟨by simp, .inl ⟨rfl, rfl⟩⟩, by simp⟩
  · have hml : len ≤ m := by rw [hme]; simp; exact hl
    rw [hsz] at hel
    have key : ∀ k, k ≤ len → ∃ l : List α, l.length = k ∧ (∀ y ∈ l, Q y) ∧ ∀ i (hi : i < l.length), ∀ r u, (f l[i])[r]? = some u → W.cell? (a.add (i * sz + r)) = some u := by
      intro k
      induction k with
      | zero => intro _; exact ⟨[], rfl, by simp, fun i hi => absurd hi (Nat.not_lt_zero i)⟩
      | succ k ih =>
        intro hk
        obtain ⟨l, h1, h2, h3⟩ := ih (by omega)
        obtain ⟨cs', hc, htr⟩ := hel k (by omega)
        obtain ⟨_, hlen, hcell⟩ := World.cells?_some hc
        obtain ⟨y, rfl, hq⟩ := helem _ _ _ hlen htr
        refine ⟨l ++ [y], by simp [h1], ?_, ?_⟩
        · intro z hz
          rcases List.mem_append.1 hz with hz | hz
          · exact h2 z hz
          · rw [List.mem_singleton.1 hz]; exact hq
        · intro i hi r u hu
          by_cases hil : i < l.length
          · rw [List.getElem_append_left hil] at hu
            exact h3 i hil r u hu
          · have hik : i = l.length := by simp at hi; omega
            subst hik
            rw [List.getElem_append_right (Nat.le_refl _)] at hu
            simp only [Nat.sub_self, List.getElem_cons_zero] at hu
            obtain ⟨hr, hu'⟩ := List.getElem?_eq_some_iff.1 hu
            have hr' : r < sz := by rw [hf] at hr; exact hr
            have := hcell r hr'
            rw [Deep.add_add] at this
            rw [h1, this]
            exact hu
    obtain ⟨l, h1, h2, h3⟩ := key len (Nat.le_refl _)
    refine ⟨_, l, rfl, ⟨flat_len hf l, .inr ⟨a, cap, by rw [h1], by rw [h1]; exact hl, hm, ?_⟩⟩, h2⟩
    intro j u hj
    rw [flat_get hz hf] at hj
    obtain ⟨y, hy, hu⟩ := Option.bind_eq_some_iff.1 hj
    obtain ⟨hi, rfl⟩ := List.getElem?_eq_some_iff.1 hy
    have := h3 _ hi _ _ hu
    rwa [Nat.mul_comm, Nat.div_add_mod] at this
end

theorem fields_Event : fieldsOf Tryz.prog 58 = [(3, 0), (3, 1), (3, 2), (3, 3)] := by kernel_rfl
theorem cells_Event : Tryz.prog.cellsOf 58 = 4 := by kernel_rfl
theorem isStruct_Event : ∃ fs, Tryz.prog.underlying 58 = some (.struct fs) := ⟨_, Tryz.underlying58⟩

section
variable {H : Type} {enc : TypeId × Value → H} {W : World}

set_option maxRecDepth 100000 in
theorem event_cells4 {n : Nat} {cs : List Value} {x : DataW H × List MemPlace} (hl : cs.length = 4) (ht : DataW.trod enc Tryz.prog W 0 (fun _ => true) true n 58 cs = some x) : ∃ y : Event, cs = [.int .i64 y.kind, .int .i64 y.node, .int .i64 y.part, .int .i64 y.n] := by
  obtain ⟨n', -, hx⟩ := trod_fields fields_Event (by decide) ht
  match cs, hl with
  | [c0, c1, c2, c3], _ =>
    obtain ⟨y0, e0⟩ := hx 0 _ rfl
    obtain ⟨y1, e1⟩ := hx 1 _ rfl
    obtain ⟨y2, e2⟩ := hx 2 _ rfl
    obtain ⟨y3, e3⟩ := hx 3 _ rfl
    simp only [cells_int] at e0 e1 e2 e3
    obtain ⟨z0, g0, _, _⟩ := DataW.trod_int und_int e0
    obtain ⟨z1, g1, _, _⟩ := DataW.trod_int und_int e1
    obtain ⟨z2, g2, _, _⟩ := DataW.trod_int und_int e2
    obtain ⟨z3, g3, _, _⟩ := DataW.trod_int und_int e3
    simp at g0 g1 g2 g3
    subst g0; subst g1; subst g2; subst g3
    exact ⟨⟨z0, z1, z2, z3⟩, rfl⟩

set_option maxRecDepth 100000 in
theorem event_of_trod {v : Value} {d : DataW H} {ps : List MemPlace} {base : Nat} (hv : Value.okWide Tryz.prog W .any base 58 v) (h : DataW.Trod enc Tryz.prog W 0 (fun _ => true) true 58 v d ps) : ∃ y : Event, v = y.v := by
  obtain ⟨fs, hfs⟩ := isStruct_Event
  obtain ⟨cs, rfl, hsz⟩ := okWide_struct hfs hv
  obtain ⟨fuel, hf⟩ := h
  rw [cells_Event] at hsz
  obtain ⟨y, hy⟩ := event_cells4 (by simpa [Value.cells] using hsz) hf
  refine ⟨y, ?_⟩
  have : cs = #[.int .i64 y.kind, .int .i64 y.node, .int .i64 y.part, .int .i64 y.n] := by
    apply Array.toList_inj.1
    simpa [Value.cells] using hy
  rw [this]
  rfl
end
end Go.Proofs.YtcpaaleogmiamaaGreatDoor
namespace Go.Proofs.YtcpaaleogmiamaaGreatDoor
open Go.RowKit

def chainP (p n c : Nat) : List Int := (List.range c).map fun i => (((p + i) % n + 1 : Nat) : Int)
theorem chainP_length (p n c : Nat) : (chainP p n c).length = c := by simp [chainP]
theorem chainP_succ (p n c : Nat) : chainP p n (c + 1) = chainP p n c ++ [(((p + c) % n + 1 : Nat) : Int)] := by simp [chainP, List.range_succ]

def placeP (p n c : Nat) : Pt := ⟨1, chainP p n c, 0⟩

def PlaceOut (w : World) (p n c : Nat) (e : Ending) (w' : World) : Prop :=
  ∃ cv, e = .returned (.agg #[.int .i64 1, cv, .int .i64 0]) ∧ w'.ownsRow w.heap.size 3 1 cv c (intCells (chainP p n c)) ∧ Below w.heap.size w w'

set_option maxRecDepth 100000 in
set_option maxHeartbeats 2000000 in
theorem place_any (p n c : Nat) (w : World) (hn : 0 < n) (hp : p ≤ 1000) (hn2 : n ≤ 1000) (hc : c ≤ 1000) :
    Calls Tryz.prog 130 #[.int .i64 p, .int .i64 n, .int .i64 c] w (PlaceOut w p n c) := by
  obtain ⟨i1, ki, kz0, kz1, kz2⟩ := info_parts info_Int
  have b1 : (p : Int) ≤ 1000 := by omega
  have b2 : (n : Int) ≤ 1000 := by omega
  have b3 : (c : Int) ≤ 1000 := by omega
  go_enter Tryz.func130, Tryz.ntmps130
  go_wp2
  go_loopg [8, 11] c (fun gk _ i wr => ∃ (k : Nat) (cv : Value), k ≤ c ∧ gk = c - k ∧ i = .int .i64 k ∧ wr.ownsRow (w.heap.size + 2) 3 1 cv k (intCells (chainP p n k)) ∧
    wr.heap[w.heap.size + 1]? = some (.cells #[.int .i64 1, cv, .int .i64 0] 36 (0, 0)) ∧ wr.heap[w.heap.size]? = some (.cells #[.int .i64 0, .slice none 0 0, .int .i64 0] 36 (0, 0)) ∧ Below w.heap.size w wr)
  case atStart =>
    refine ⟨0, _, Nat.zero_le _, rfl, rfl, World.ownsRow_nil _ _ _ _, heap_new1 _ _ _, ?_, below_alloc2 _ _ _⟩
    rw [Below.heap_alloc _ _ _ (by simp)]
    exact heap_alloc_new w _
  case round =>
    obtain ⟨k, cv, hk, rfl, rfl, hown, hx, h0, hbel⟩ := hrel
    have HX := Lib.hid (And.intro hown (And.intro hx (And.intro h0 hbel)))
    have hsz := hbel.size
    have hxlt : w.heap.size + 1 < wr.heap.size := (Array.getElem?_eq_some_iff.1 hx).1
    clear hown h0 hbel
    by_cases hlt : k < c
    · have i1' : (k : Int) < (c : Int) := by omega
      have i2 : (0 : Int) ≤ (k : Int) := by omega
      have e1 : IntKind.i64.wrap ((p : Int) + (k : Int)) = ((p + k : Nat) : Int) := by rw [IntWalk.i64_in _ (by omega)]; omega
      have hmod : (p + k) % n < n := Nat.mod_lt _ hn
      have e3 : IntKind.i64.wrap (((p : Int) + (k : Int)).tmod (n : Int) + 1) = (((p + k) % n + 1 : Nat) : Int) := by
        have : ((p : Int) + (k : Int)).tmod (n : Int) = (((p + k) % n : Nat) : Int) := by rw [Int.tmod_eq_emod_of_nonneg (by omega)]; push_cast; rfl
        rw [this, IntWalk.i64_in _ (by omega)]; omega
      have hn0 : ¬ n = 0 := by omega
      have hsucc := chainP_succ p n k
      generalize ((p + k) % n + 1 : Nat) = y at *
      have c1 : wr.cell? ⟨w.heap.size + 1, 1, none⟩ = some cv := by rw [cell_of_row wr _ 1 _ _ _ hx]; rfl
      have hkeep : ∀ w', Upd (fun b => some b = cv.ownBlock) wr w' → w'.cell? ⟨w.heap.size + 1, 1, none⟩ = some cv ∧ w'.frozen? ⟨w.heap.size + 1, 1, none⟩ = false := by
        intro w' hu
        have hne : ¬ some (w.heap.size + 1) = cv.ownBlock := fun e => by have := (owns_lt HX.out.1 _ e.symm).1; omega
        have hbk := hu.block _ hxlt hne
        refine ⟨(World.cell?_of_block hbk).trans c1, (World.frozen?_of_block hbk).trans ?_⟩
        simp [World.frozen?, hx]
      have HK := Lib.hid hkeep
      clear hkeep hx
      have hb2 : w.heap.size + 2 ≤ wr.heap.size + 1 := by omega
      have hs2 : intCells (chainP p n (k + 1)) = intCells (chainP p n k) ++ [.int .i64 (y : Int)] := by rw [hsucc]; simp [intCells]
      generalize hX : w.heap.size + 1 = X at *
      have HHX := Lib.hid (And.intro hX hs2)
      clear hX hs2 hsucc
      go_wp2
      have ca : ∀ o, (wr.alloc o).cell? ⟨X, 1, none⟩ = some cv := fun o => (HK.out _ (upd_alloc _ wr o)).1
      go_region_law
        (first
          | (refine step_append_lies _ (by rfl) _ _ _ (by rfl) (w.heap.size + 2) 3 i1 _ 1 8 und_Ints ki kz0 kz1 kz2 rfl (by omega) cv k (intCells (chainP p n k)) (by rfl) (HX.out.1.alloc _) ⟨wr.heap.size, 0, none⟩ 1 1 [.int .i64 (y : Int)] (by rfl) (by rfl) (World.news_of_block (cs := #[.int .i64 (y : Int)]) (t := 3) (fr := (0, 0)) (heap_alloc_new wr _)) (by simp [Value.oneCell']) (by omega) ?_ ?_ ?_ _ rfl ?_; (unfold maxLen; omega); omega; (first | (simp only [World.size_alloc, World.size_drew]; omega) | omega); rintro g9 gcap9 w9 hown9 hgrow9 - hlt9; obtain ⟨c9, f9⟩ := HK.out w9 (((upd_alloc _ wr _).trans (upd_drew _ _)).trans (upd_grown hgrow9))))
      all_goals
        have hu9 := ((upd_alloc (fun b => some b = cv.ownBlock) wr (.cells #[.int .i64 (y : Int)] 3)).trans (upd_drew _ _)).trans (upd_grown hgrow9)
        have HY := Lib.hid (And.intro hown9 hu9)
        clear hown9 hu9 hgrow9 c9 f9 ca c1
        go_wp2
        go_roundg (c - (k + 1))
        case measure => omega
        case rel =>
          have hX := HHX.out.1
          have hlo := owns_lt HY.out.1 g9 rfl
          have hne : ¬ some X = cv.ownBlock := fun e => by have := (owns_lt HX.out.1 _ e.symm).1; omega
          have hneN : ¬ some w.heap.size = cv.ownBlock := fun e => by have := (owns_lt HX.out.1 _ e.symm).1; omega
          have hx9 := (HY.out.2.block X hxlt hne).trans HX.out.2.1
          have h09 := (HY.out.2.block w.heap.size (by omega) hneN).trans HX.out.2.2.1
          have hset := upd_setCell (F := fun b => b = X) (Upd.refl _ w9) (b := X) (o := 1) rfl (.slice (some ⟨g9, 0, none⟩) (k + 1) gcap9)
          refine ⟨k + 1, .slice (some ⟨g9, 0, none⟩) (k + 1) gcap9, by omega, rfl, by go_num, ?_, ?_, ?_, ?_⟩
          · rw [HHX.out.2]
            exact owns_upd HY.out.1 hset (fun g hg e => by have := (owns_lt HY.out.1 g hg).1; omega)
          · exact setCell_same hx9
          · rw [hset.block w.heap.size (by have := HY.out.2.size; omega) (by omega)]
            exact h09
          · exact HX.out.2.2.2.trans ((HY.out.2.toBelow hsz (fun b e => by have := (owns_lt HX.out.1 b e.symm).1; omega)).trans (hset.toBelow (by have := HY.out.2.size; omega) (fun b e => by omega)))
    · have i1' : ¬ (k : Int) < (c : Int) := by omega
      have hkc : k = c := by omega
      subst hkc
      obtain ⟨ca, cc, rfl, -⟩ := (Sl.of_owns HX.out.1).shape
      have hx := HX.out.2.1
      have h0 := HX.out.2.2.1
      have d0 := cells_of hx 0 _ rfl
      have d1 := cells_of hx 1 _ rfl
      have d2 := cells_of hx 2 _ rfl
      have n0 := cells_of h0 0 _ rfl
      have n1 := cells_of h0 1 _ rfl
      have n2 := cells_of h0 2 _ rfl
      have f0 := frozen_of (j := 0) h0
      have f1 := frozen_of (j := 1) h0
      have f2 := frozen_of (j := 2) h0
      have HH := Lib.hid h0
      clear hx h0
      go_wp2
      have hf := setCell_same (o := 2) (v := .int .i64 0) (setCell_same (o := 1) (v := .slice ca k cc) (setCell_same (o := 0) (v := .int .i64 1) HH.out))
      have r0 := cells_of hf 0 _ rfl
      have r1 := cells_of hf 1 _ rfl
      have r2 := cells_of hf 2 _ rfl
      refine bodyPost_ret (v := .agg #[.int .i64 1, .slice ca k cc, .int .i64 0]) (by simp [results, Tryz.results130, go_sem, r0, r1, r2]) rfl ⟨_, rfl, ?_, ?_⟩
      · have hset3 := upd_set3 wr w.heap.size (.int .i64 1) (.slice ca k cc) (.int .i64 0)
        exact owns_mono (owns_upd HX.out.1 hset3 (fun g hg e => by have := (owns_lt HX.out.1 g hg).1; omega)) (by omega)
      · have hset3 := upd_set3 wr w.heap.size (.int .i64 1) (.slice ca k cc) (.int .i64 0)
        exact HX.out.2.2.2.trans (hset3.toBelow hsz (fun b e => by omega))
end Go.Proofs.YtcpaaleogmiamaaGreatDoor
