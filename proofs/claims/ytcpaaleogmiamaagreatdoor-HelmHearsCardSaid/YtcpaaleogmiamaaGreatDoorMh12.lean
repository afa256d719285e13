/- A plan whose words lie above a mark: it is read whatever is written below. -/
/- The walks of plan.isPlace and plan.Good. -/
/- The walk of plan.Good. -/
import Derived.Test.YtcpaaleogmiamaaGreatDoorMh11
import Derived.Test.YtcpaaleogmiamaaGreatDoorMh5
namespace Go.Proofs.YtcpaaleogmiamaaGreatDoor
open Go.RowKit

def PlanFrom (w : World) (N : Nat) (v : Value) (p : Pl) : Prop := ∀ (F : Nat → Prop) (W : World), (∀ k, F k → k < N) → Upd F w W → PlanRd W v p

theorem PlanFrom.rd {w : World} {N : Nat} {v : Value} {p : Pl} (h : PlanFrom w N v p) : PlanRd w v p := h (fun _ => False) w (fun _ h => h.elim) (Upd.refl _ _)

theorem PlanFrom.below {w w' : World} {N : Nat} {v : Value} {p : Pl} (h : PlanFrom w N v p) (hb : Below w.heap.size w w') : PlanFrom w' N v p :=
  fun F W hF hu => h F W hF (((Upd.of_below (F := F) hb)).trans hu)

theorem PlanFrom.mono {w : World} {N N' : Nat} {v : Value} {p : Pl} (h : PlanFrom w N v p) (hn : N' ≤ N) : PlanFrom w N' v p :=
  fun F W hF hu => h F W (fun k hk => by have := hF k hk; omega) hu

theorem PlanFrom.upd {w w' : World} {F : Nat → Prop} {N : Nat} {v : Value} {p : Pl} (h : PlanFrom w N v p) (hu : Upd F w w') (hF : ∀ k, F k → k < N) : PlanFrom w' N v p :=
  fun G W hG hu2 => h (fun k => F k ∨ G k) W (fun k hk => hk.elim (hF k) (hG k)) ((hu.mono (fun _ _ h => .inl h)).trans (hu2.mono (fun _ _ h => .inr h)))

/-- Parts and lives that the call owns. -/
theorem PlanFrom.of_owns {w : World} {N : Nat} {p : Pl} {pa la : Option Addr} {pc lc : Nat} {m : List (Value × Pt)} (h : OwnP w N (.slice pa p.parts.length pc) m) (he : m.map (·.2) = p.parts)
    (hl : w.ownsRow N 134 2 (.slice la p.lives.length lc) p.lives.length (lifeCells p.lives)) : PlanFrom w N (planV p pa pc la lc) p := by
  intro F W hF hu
  have h2 := h.low hu hF
  have hl2 := owns_upd hl hu (fun g hg hf => by have := (owns_lt hl g hg).1; have := hF g hf; omega)
  exact ⟨_, _, rfl, by have := h2.rd; rw [he] at this; exact this, LivesRd.of_owns hl2⟩

theorem PlanFrom.zero (w : World) (N : Nat) : PlanFrom w N (.agg #[.int .i64 0, .int .i64 0, .slice none 0 0, .slice none 0 0]) .zero :=
  fun _ _ _ _ => ⟨_, _, rfl, ⟨[], rfl, ⟨rfl, .inl ⟨rfl, rfl⟩⟩, by simp⟩, ⟨rfl, .inl ⟨rfl, rfl⟩⟩⟩

theorem PlanOwn.toFrom {w : World} {N pb : Nat} {p : Pl} {pa : Option Addr} {pc : Nat} {la : Option Addr} {lc : Nat} {m : List (Value × Pt)} (h : PlanOwn w N pb p pa pc la lc m) : PlanFrom w N (planV p pa pc la lc) p :=
  PlanFrom.of_owns h.parts h.eq h.lives
end Go.Proofs.YtcpaaleogmiamaaGreatDoor
namespace Go.Proofs.YtcpaaleogmiamaaGreatDoor
open Go.RowKit

def isPlaceB (x : Pt) (nodes : Int) : Bool :=
  (x.chain.all (fun n => inB n 1 nodes) && decide x.chain.Nodup) && (inB x.epoch 1 1073741824 && (decide (0 < x.chain.length) && (inB x.learner 0 nodes && !x.chain.contains x.learner)))

def seenM (l : List Int) : List (Int × Value) := l.map fun n => (n, .bool true)

theorem seen_get (l : List Int) (n : Int) : (mget (seenM l) n).getD (.bool false) = .bool (l.contains n) := by
  induction l with
  | nil => rfl
  | cons x l ih =>
    by_cases e : x = n
    · subst e; simp [mget, seenM]
    · have e1 : (x == n) = false := by simpa using e
      have e2 : (n == x) = false := by simpa using fun h => e h.symm
      simp only [mget, seenM, List.map_cons, List.find?_cons, e1, List.contains_cons, e2, Bool.false_or] at ih ⊢
      exact ih

theorem seen_put (l : List Int) (n : Int) (h : n ∉ l) : mput (seenM l) n (.bool true) = seenM (l ++ [n]) := by
  induction l with
  | nil => rfl
  | cons x l ih =>
    have e1 : (x == n) = false := by simp; intro e; exact h (by simp [e])
    have := ih (fun hx => h (List.mem_cons_of_mem _ hx))
    simp only [seenM, List.map_cons, mput, e1, List.cons_append] at this ⊢
    simp [this]

theorem look_seen {w : World} {B : Nat} {l : List Int} (h : MapIs w B (seenM l)) (n : Int) (w' : World) (hu : Upd (fun _ => False) w w') :
    (Instr.lookup 237 (.map (some B)) (.int .i64 n) false).run Tryz.prog w' = .ok (.bool (l.contains n)) w' := by
  have := run_lookup_ints und_mapBool und_int zero_bool (h.upd hu (fun h => h)) n false
  rw [seen_get] at this
  exact this

abbrev partV (x : Pt) (ca : Option Addr) (cc : Nat) : Value := .agg #[.int .i64 x.epoch, .slice ca x.chain.length cc, .int .i64 x.learner]

set_option maxRecDepth 100000 in
set_option maxHeartbeats 2000000 in
theorem isPlace_any {w : World} {ca : Option Addr} {cc : Nat} (x : Pt) (nodes : Int) (h : IntsRd w (.slice ca x.chain.length cc) x.chain) :
    Calls Tryz.prog 138 #[partV x ca cc, .int .i64 nodes] w fun e w' => e = .returned (.bool (isPlaceB x nodes)) ∧ Below w.heap.size w w' := by
  obtain ⟨ep, l, le⟩ := x
  obtain ⟨a, cap, e, hcap, hml, hC⟩ := h.cells
  simp only [Value.slice.injEq, true_and] at e
  obtain ⟨rfl, rfl⟩ := e
  have hml' : (l.length : Int) ≤ 9223372036854775807 := by have : maxLen = 9223372036854775807 := rfl; simp only at hml; omega
  have HC := Lib.hid hC
  clear h hC hcap hml
  obtain ⟨R, hR⟩ : ∃ R, isPlaceB ⟨ep, l, le⟩ nodes = R := ⟨_, rfl⟩
  rw [hR]
  unfold isPlaceB at hR
  simp only at *
  have HR := Lib.hid hR
  clear hR
  have hmm := @run_makeMap Tryz.prog
  go_enter Tryz.func138, Tryz.ntmps138
  go_wp2
  go_loopg [7, 12] l.length (fun gk _ i wr => ∃ k : Nat, k ≤ l.length ∧ gk = l.length - k ∧ i = .int .i64 k ∧ MapIs wr (w.heap.size + 1) (seenM (l.take k)) ∧ (l.take k).Nodup ∧ (l.take k).all (fun n => inB n 1 nodes) = true ∧
    wr.heap[w.heap.size]? = some (.cells #[.int .i64 ep, .slice ca l.length cc, .int .i64 le] 36 (0, 0)) ∧ Below w.heap.size w wr)
  case atStart =>
    refine ⟨0, Nat.zero_le _, rfl, rfl, ⟨#[], 0, ?_, rfl, MapKept.stamped_empty 0⟩, List.nodup_nil, rfl, ?_, below_alloc2 _ _ _⟩
    · exact heap_new1 _ _ _
    · rw [Below.heap_alloc _ _ _ (by simp)]; exact heap_alloc_new w _
  case round =>
    obtain ⟨k, hk, rfl, rfl, hm, hnd, hall, hx, hbel⟩ := hrel
    have HX := Lib.hid (And.intro hm (And.intro hnd (And.intro hall (And.intro hx hbel))))
    have hsz := hbel.size
    have hxlt : w.heap.size < wr.heap.size := (Array.getElem?_eq_some_iff.1 hx).1
    have hlk := fun n => look_seen hm n wr (Upd.refl _ _)
    clear hnd hall
    by_cases hlt : k < l.length
    · obtain ⟨b, off, rfl, hb, c0⟩ := HC.out k hlt
      have c0 := below_some hbel c0 hb
      have i1 : (k : Int) < (l.length : Int) := by omega
      have i2 : (0 : Int) ≤ (k : Int) := by omega
      have htk : l.take (k + 1) = l.take k ++ [l[k]] := by rw [List.take_succ_eq_append_getElem hlt]
      have hmem : l[k] ∈ l := List.getElem_mem hlt
      have hNd : l[k] ∈ l.take k → ¬ l.Nodup := by
        intro hin hno
        obtain ⟨j, hj, e⟩ := List.mem_iff_getElem.1 hin
        have hj' : j < k := by simp at hj; omega
        have := List.nodup_iff_pairwise_ne.1 hno
        have := List.pairwise_iff_getElem.1 this j k (by omega) hlt hj'
        simp at e
        exact this e
      have HT := Lib.hid (And.intro htk (And.intro hmem hNd))
      clear htk hmem hNd hm hx hbel
      generalize l[k] = y at *
      have hly := hlk y
      clear hlk
      by_cases hin : inB y 1 nodes = true
      · by_cases hse : (l.take k).contains y = true
        · rw [hse] at hly
          have hno : ¬ l.Nodup := HT.out.2.2 (by simpa using hse)
          have hRf : R = false := by rw [← HR.out]; simp [hno]
          subst hRf
          go_wp2_with (first | (go_at_call 74; refine (within_any _ _ _ _).mono ?_; rintro _ w1 ⟨rfl, rfl⟩; rw [hin]))
          exact bodyPost_ret (v := .bool false) (by simp [results, Tryz.results138, go_sem]) rfl ⟨rfl, HX.out.2.2.2.2⟩
        · have hse : (l.take k).contains y = false := by simpa using hse
          rw [hse] at hly
          obtain ⟨w6, hmu, hm6, hu6⟩ := mapUpdate_run und_mapBool und_int HX.out.1 y (.bool true)
          rw [seen_put _ _ (by simpa using hse), ← HT.out.1] at hm6
          have H6 := Lib.hid (And.intro hm6 hu6)
          clear hm6 hu6
          go_wp2_with (first | (go_at_call 74; refine (within_any _ _ _ _).mono ?_; rintro _ w1 ⟨rfl, rfl⟩; rw [hin]))
          go_roundg (l.length - (k + 1))
          case measure => omega
          case rel =>
            refine ⟨k + 1, by omega, rfl, by go_num, H6.out.1, ?_, ?_, ?_, ?_⟩
            · rw [HT.out.1]
              refine List.nodup_append.2 ⟨HX.out.2.1, by simp, ?_⟩
              intro a ha b hb e
              simp only [List.mem_singleton] at hb
              subst hb; subst e
              simp [ha] at hse
            · rw [HT.out.1, List.all_append, HX.out.2.2.1]; simp [hin]
            · rw [H6.out.2.block _ hxlt (by omega)]; exact HX.out.2.2.2.1
            · exact HX.out.2.2.2.2.trans (H6.out.2.toBelow hsz (fun b e => by omega))
      · have hin : inB y 1 nodes = false := by simpa using hin
        have hRf : R = false := by
          rw [← HR.out]
          have : l.all (fun n => inB n 1 nodes) = false := by
            rw [List.all_eq_false]
            exact ⟨y, HT.out.2.1, by simp [hin]⟩
          simp [this]
        subst hRf
        go_wp2_with (first | (go_at_call 74; refine (within_any _ _ _ _).mono ?_; rintro _ w1 ⟨rfl, rfl⟩; rw [hin]))
        exact bodyPost_ret (v := .bool false) (by simp [results, Tryz.results138, go_sem]) rfl ⟨rfl, HX.out.2.2.2.2⟩
    · have i1 : ¬ (k : Int) < (l.length : Int) := by omega
      have hkl : l.take k = l := List.take_of_length_le (by omega)
      have hR' : R = (inB ep 1 1073741824 && (decide (0 < l.length) && (inB le 0 nodes && !l.contains le))) := by
        rw [← HR.out]
        have h1 := HX.out.2.1
        have h2 := HX.out.2.2.1
        rw [hkl] at h1 h2
        simp [h1, h2]
      have hle := hlk le
      rw [hkl] at hle
      have x0 := cells_of hx 0 _ rfl
      have x1 := cells_of hx 1 _ rfl
      have x2 := cells_of hx 2 _ rfl
      clear hlk hm hx hbel hkl
      have HB := Lib.hid HX.out.2.2.2.2
      by_cases h1 : inB ep 1 1073741824 = true
      · by_cases h2 : 0 < l.length
        · have h2' : (0 : Int) < (l.length : Int) := by omega
          by_cases h3 : inB le 0 nodes = true
          · cases hc : l.contains le
            · rw [hc] at hle
              have hRt : R = true := by rw [hR', h1, h3, hc]; simp [h2]
              subst hRt
              clear hR'
              go_wp2_with (first | (go_at_call 74; refine (within_any _ _ _ _).mono ?_; rintro _ w1 ⟨rfl, rfl⟩; (first | rw [h1] | rw [h3])))
              exact bodyPost_ret (v := .bool true) (by simp [results, Tryz.results138, go_sem]) rfl ⟨rfl, HB.out⟩
            · rw [hc] at hle
              have hRt : R = false := by rw [hR', hc]; simp
              subst hRt
              clear hR'
              go_wp2_with (first | (go_at_call 74; refine (within_any _ _ _ _).mono ?_; rintro _ w1 ⟨rfl, rfl⟩; (first | rw [h1] | rw [h3])))
              exact bodyPost_ret (v := .bool false) (by simp [results, Tryz.results138, go_sem]) rfl ⟨rfl, HB.out⟩
          · have h3 : inB le 0 nodes = false := by simpa using h3
            have hRt : R = false := by rw [hR', h3]; simp
            subst hRt
            clear hR'
            go_wp2_with (first | (go_at_call 74; refine (within_any _ _ _ _).mono ?_; rintro _ w1 ⟨rfl, rfl⟩; (first | rw [h1] | rw [h3])))
            exact bodyPost_ret (v := .bool false) (by simp [results, Tryz.results138, go_sem]) rfl ⟨rfl, HB.out⟩
        · have h2' : ¬ (0 : Int) < (l.length : Int) := by omega
          have hRt : R = false := by rw [hR']; simp [h2]
          subst hRt
          clear hR'
          go_wp2_with (first | (go_at_call 74; refine (within_any _ _ _ _).mono ?_; rintro _ w1 ⟨rfl, rfl⟩; (first | rw [h1])))
          exact bodyPost_ret (v := .bool false) (by simp [results, Tryz.results138, go_sem]) rfl ⟨rfl, HB.out⟩
      · have h1 : inB ep 1 1073741824 = false := by simpa using h1
        have hRt : R = false := by rw [hR', h1]; simp
        subst hRt
        clear hR'
        go_wp2_with (first | (go_at_call 74; refine (within_any _ _ _ _).mono ?_; rintro _ w1 ⟨rfl, rfl⟩; (first | rw [h1])))
        exact bodyPost_ret (v := .bool false) (by simp [results, Tryz.results138, go_sem]) rfl ⟨rfl, HB.out⟩
end Go.Proofs.YtcpaaleogmiamaaGreatDoor
namespace Go.Proofs.YtcpaaleogmiamaaGreatDoor
open Go.RowKit

def lifeOk (nodes : Int) (x : Int × Int) : Bool := inB x.1 1 nodes && inB x.2 1 1073741824
def Rising (l : List (Int × Int)) : Prop := l.Pairwise (fun a b => a.1 < b.1)
instance (l : List (Int × Int)) : Decidable (Rising l) := by unfold Rising; infer_instance

def goodP (p : Pl) : Bool :=
  inB p.nodes 1 5 && (inB p.copies 1 p.nodes && (inB p.parts.length 2 4 && (p.parts.all (isPlaceB · p.nodes) && (p.lives.all (lifeOk p.nodes) && decide (Rising p.lives)))))

theorem Rising.snoc {l : List (Int × Int)} {k : Nat} (hk : k < l.length) (h : Rising (l.take k)) (hx : ∀ (h0 : 0 < k), (l[k - 1]'(by omega)).1 < l[k].1) : Rising (l.take (k + 1)) := by
  rw [List.take_succ_eq_append_getElem hk]
  refine List.pairwise_append.2 ⟨h, by simp, ?_⟩
  intro a ha b hb
  simp only [List.mem_singleton] at hb
  subst hb
  obtain ⟨j, hj, e⟩ := List.mem_iff_getElem.1 ha
  have hj' : j < k := by simp at hj; omega
  have e2 : a = l[j] := by rw [← e]; simp
  rw [e2]
  have h1 := hx (by omega)
  by_cases hjk : j = k - 1
  · subst hjk; exact h1
  · have := List.pairwise_iff_getElem.1 h j (k - 1) hj (by simp; omega) (by omega)
    simp only [List.getElem_take] at this
    omega

theorem Rising.not {l : List (Int × Int)} {k : Nat} (hk : k < l.length) (h0 : 0 < k) (hx : ¬ (l[k - 1]'(by omega)).1 < l[k].1) : ¬ Rising l := by
  intro h
  exact hx (List.pairwise_iff_getElem.1 h (k - 1) k (by omega) hk (by omega))

theorem within_q (n a b : Int) (w : World) : Calls Tryz.prog 74 #[.int .i64 n, .int .i64 a, .int .i64 b] w fun e w' => e = .returned (.bool (inB n a b)) ∧ w' = w := within_any n a b w

set_option maxRecDepth 100000 in
set_option maxHeartbeats 4000000 in
theorem Good_any {w : World} {v : Value} {p : Pl} (h : PlanRd w v p) : Calls Tryz.prog 78 #[v] w fun e w' => e = .returned (.bool (goodP p)) ∧ Below w.heap.size w w' := by
  obtain ⟨pv, lv, rfl, hp, hl⟩ := h
  obtain ⟨nodes, copies, P, L⟩ := p
  simp only at hp hl ⊢
  obtain ⟨pa, pc, rfl, -, hpm, hP⟩ := hp.cells
  obtain ⟨la, lc, rfl, -, hlm, hL⟩ := hl.cells
  have hpm' : (P.length : Int) ≤ 9223372036854775807 := by have : maxLen = 9223372036854775807 := rfl; omega
  have hlm' : (L.length : Int) ≤ 9223372036854775807 := by have : maxLen = 9223372036854775807 := rfl; omega
  have HP := Lib.hid hP
  have HL := Lib.hid hL
  clear hp hl hP hL hpm hlm
  obtain ⟨R, hR⟩ : ∃ R, goodP ⟨nodes, copies, P, L⟩ = R := ⟨_, rfl⟩
  rw [hR]
  unfold goodP at hR
  simp only at hR
  by_cases h1 : inB nodes 1 5 = true
  case neg =>
    have h1 : inB nodes 1 5 = false := by simpa using h1
    have hRf : R = false := by rw [← hR, h1]; rfl
    subst hRf
    clear hR
    go_enter Tryz.func78, Tryz.ntmps78
    go_wp2_with (first | (go_at_call 74; refine (within_any _ _ _ _).mono ?_; rintro _ w1 ⟨rfl, rfl⟩; rw [h1]))
    exact bodyPost_ret (v := .bool false) (by simp [results, Tryz.results78, go_sem]) rfl ⟨rfl, below_alloc _ _⟩
  by_cases h2 : inB copies 1 nodes = true
  case neg =>
    have h2 : inB copies 1 nodes = false := by simpa using h2
    have hRf : R = false := by rw [← hR, h2]; simp
    subst hRf
    clear hR
    go_enter Tryz.func78, Tryz.ntmps78
    go_wp2_with (first | (go_at_call 74; refine (within_any _ _ _ _).mono ?_; rintro _ w1 ⟨rfl, rfl⟩; (first | rw [h1] | rw [h2])))
    exact bodyPost_ret (v := .bool false) (by simp [results, Tryz.results78, go_sem]) rfl ⟨rfl, below_alloc _ _⟩
  by_cases h3 : inB P.length 2 4 = true
  case neg =>
    have h3 : inB P.length 2 4 = false := by simpa using h3
    have hRf : R = false := by rw [← hR, h3]; simp
    subst hRf
    clear hR
    go_enter Tryz.func78, Tryz.ntmps78
    go_wp2_with (first | (go_at_call 74; refine (within_any _ _ _ _).mono ?_; rintro _ w1 ⟨rfl, rfl⟩; (first | rw [h1] | rw [h2] | rw [h3])))
    exact bodyPost_ret (v := .bool false) (by simp [results, Tryz.results78, go_sem]) rfl ⟨rfl, below_alloc _ _⟩
  have hR2 : R = (P.all (isPlaceB · nodes) && (L.all (lifeOk nodes) && decide (Rising L))) := by rw [← hR, h1, h2, h3]; simp
  have HR := Lib.hid hR2
  clear hR hR2
  go_enter Tryz.func78, Tryz.ntmps78
  go_wp2_with (first | (go_at_call 74; refine (within_any _ _ _ _).mono ?_; rintro _ w1 ⟨rfl, rfl⟩; (first | rw [h1] | rw [h2] | rw [h3])))
  clear h1 h2 h3
  go_loopg [4, 29] P.length (fun gk _ i wr => ∃ k : Nat, k ≤ P.length ∧ gk = P.length - k ∧ i = .int .i64 k ∧ (P.take k).all (isPlaceB · nodes) = true ∧
    wr.heap[w.heap.size]? = some (.cells #[.int .i64 nodes, .int .i64 copies, .slice pa P.length pc, .slice la L.length lc] 52 (0, 0)) ∧ Below w.heap.size w wr)
  case atStart => exact ⟨0, Nat.zero_le _, rfl, rfl, rfl, heap_alloc_new w _, below_alloc _ _⟩
  case round =>
    obtain ⟨k, hk, rfl, rfl, hall, hx, hbel⟩ := hrel
    have HX := Lib.hid (And.intro hall (And.intro hx hbel))
    have hsz := hbel.size
    have hxlt : w.heap.size < wr.heap.size := (Array.getElem?_eq_some_iff.1 hx).1
    have hx0 := cells_of hx 0 _ rfl
    have hx3 := cells_of hx 3 _ rfl
    clear hall
    by_cases hlt : k < P.length
    · obtain ⟨b, off, ca, cc, rfl, hb, c0, c1, c2, hch⟩ := HP.out k hlt
      have c0 := below_some hbel c0 hb
      have c1 := below_some hbel c1 hb
      have c2 := below_some hbel c2 hb
      have hch2 := (hch.below hbel).below (below_alloc wr (.cells #[.int .i64 P[k].epoch, .slice ca P[k].chain.length cc, .int .i64 P[k].learner] 36))
      have hx0a : (wr.alloc (.cells #[.int .i64 P[k].epoch, .slice ca P[k].chain.length cc, .int .i64 P[k].learner] 36)).cell? ⟨w.heap.size, 0, none⟩ = some (.int .i64 nodes) := below_some (below_alloc wr _) hx0 hxlt
      have i1 : (k : Int) < (P.length : Int) := by omega
      have i2 : (0 : Int) ≤ (k : Int) := by omega
      have htk : P.take (k + 1) = P.take k ++ [P[k]] := by rw [List.take_succ_eq_append_getElem hlt]
      have hmem : P[k] ∈ P := List.getElem_mem hlt
      have HT := Lib.hid (And.intro htk hmem)
      have HCH := Lib.hid hch2
      clear htk hmem hx hbel hch hch2
      generalize P[k] = y at *
      obtain ⟨ep, ch, le⟩ := y
      simp only at *
      cases hpl : isPlaceB ⟨ep, ch, le⟩ nodes
      · have hRf : R = false := by
          rw [HR.out]
          have : P.all (isPlaceB · nodes) = false := by
            rw [List.all_eq_false]
            exact ⟨_, HT.out.2, by simp [hpl]⟩
          simp [this]
        subst hRf
        go_wp2_with (first | (go_at_call 138; refine (isPlace_any ⟨ep, ch, le⟩ nodes HCH.out).mono ?_; rintro _ w1 ⟨rfl, hb1⟩; rw [hpl]))
        exact bodyPost_ret (v := .bool false) (by simp [results, Tryz.results78, go_sem]) rfl ⟨rfl, HX.out.2.2.trans ((below_trans (below_alloc _ _) hb1).mono hsz)⟩
      · go_wp2_with (first | (go_at_call 138; refine (isPlace_any ⟨ep, ch, le⟩ nodes HCH.out).mono ?_; rintro _ w1 ⟨rfl, hb1⟩; rw [hpl]))
        have hb2 := below_trans (below_alloc _ _) hb1
        go_roundg (P.length - (k + 1))
        case measure => omega
        case rel =>
          refine ⟨k + 1, by omega, rfl, by go_num, ?_, ?_, ?_⟩
          · rw [HT.out.1, List.all_append, HX.out.1]; simp [hpl]
          · rw [hb2.block _ hxlt]; exact HX.out.2.1
          · exact HX.out.2.2.trans (hb2.mono hsz)
    · have i1 : ¬ (k : Int) < (P.length : Int) := by omega
      have hkl : P.take k = P := List.take_of_length_le (by omega)
      have hR2 : R = (L.all (lifeOk nodes) && decide (Rising L)) := by
        rw [HR.out]
        have h1 := HX.out.1
        rw [hkl] at h1
        simp [h1]
      have HR2 := Lib.hid hR2
      have HB := Lib.hid (And.intro HX.out.2.1 HX.out.2.2)
      clear hR2 HX HR hkl hx hbel
      go_wp2
      go_loopg [5, 6, 42] L.length (fun gk _ _ i wx => ∃ j : Nat, j ≤ L.length ∧ gk = L.length - j ∧ i = .int .i64 j ∧ (L.take j).all (lifeOk nodes) = true ∧ Rising (L.take j) ∧
        wx.heap[w.heap.size]? = some (.cells #[.int .i64 nodes, .int .i64 copies, .slice pa P.length pc, .slice la L.length lc] 52 (0, 0)) ∧ Below w.heap.size w wx)
      case atStart => exact ⟨0, Nat.zero_le _, rfl, rfl, rfl, List.Pairwise.nil, HB.out.1, HB.out.2⟩
      case round =>
        clear hsz hxlt hx0 hx3 HB
        obtain ⟨j, hj, rfl, rfl, hall, hris, hx, hbel⟩ := hrel
        have HX := Lib.hid (And.intro hall (And.intro hris (And.intro hx hbel)))
        have hsz := hbel.size
        have hxlt : w.heap.size < wr.heap.size := (Array.getElem?_eq_some_iff.1 hx).1
        have hx0 := cells_of hx 0 _ rfl
        have hx3 := cells_of hx 3 _ rfl
        clear hall hris
        by_cases hlt : j < L.length
        · obtain ⟨b, off, rfl, hb, c0, c1⟩ := HL.out j hlt
          have hbw : b < wr.heap.size := by omega
          have c0 := below_some hbel c0 hb
          have c1 := below_some hbel c1 hb
          have i1 : (j : Int) < (L.length : Int) := by omega
          have i2 : (0 : Int) ≤ (j : Int) := by omega
          have htk : L.take (j + 1) = L.take j ++ [L[j]] := by rw [List.take_succ_eq_append_getElem hlt]
          have hmem : L[j] ∈ L := List.getElem_mem hlt
          have hsn := HX.out.2.1.snoc hlt
          have hno := fun h0 => Rising.not hlt h0
          obtain ⟨pr, hpr⟩ : ∃ pr : Int, (∀ h0 : 0 < j, (L[j - 1]'(by omega)).1 = pr) ∧ (0 < j → wr.cell? ⟨b, off + (j - 1) * 2, none⟩ = some (.int .i64 pr)) := by
            by_cases h0 : 0 < j
            · obtain ⟨b', off', e, hb', p0, -⟩ := HL.out (j - 1) (by omega)
              simp only [Option.some.injEq, Addr.mk.injEq, and_true] at e
              obtain ⟨rfl, rfl⟩ := e
              exact ⟨_, fun _ => rfl, fun _ => below_some hbel p0 hb'⟩
            · exact ⟨0, fun h => absurd h h0, fun h => absurd h h0⟩
          obtain ⟨hp1, hp2⟩ := hpr
          have hsn2 : (0 < j → pr < L[j].1) → Rising (L.take (j + 1)) := fun h => hsn (fun h0 => by rw [hp1 h0]; exact h h0)
          have hno2 : 0 < j → ¬ pr < L[j].1 → ¬ Rising L := fun h0 h => hno h0 (by rw [hp1 h0]; exact h)
          have HT := Lib.hid (And.intro htk (And.intro hmem (And.intro hsn2 hno2)))
          clear htk hmem hsn hno hp1 hsn2 hno2 hx hbel
          generalize L[j] = y at *
          obtain ⟨nd, lf⟩ := y
          simp only at *
          have HBX := Lib.hid (HX.out.2.2.2.alloc hsz (.cells #[.int .i64 nd, .int .i64 lf] 134))
          have hq1 := fun w => within_q nd 1 nodes w
          have hq2 := fun w => within_q lf 1 1073741824 w
          have hok : lifeOk nodes (nd, lf) = (inB nd 1 nodes && inB lf 1 1073741824) := rfl
          generalize inB nd 1 nodes = b1 at *
          generalize inB lf 1 1073741824 = b2 at *
          have HOK := Lib.hid hok
          clear hok
          have hnot : lifeOk nodes (nd, lf) = false → R = false := by
            intro h
            rw [HR2.out]
            have : L.all (lifeOk nodes) = false := by
              rw [List.all_eq_false]
              exact ⟨_, HT.out.2.1, by simp [h]⟩
            simp [this]
          have HNOT := Lib.hid hnot
          clear hnot
          cases b1
          · have hRf : R = false := HNOT.out (by rw [HOK.out]; rfl)
            subst hRf
            go_wp2
            go_quiet ((go_at_call 74; first | with_reducible exact Calls.quiet_of_same (hq1 _) | with_reducible exact Calls.quiet_of_same (hq2 _)))
            go_wp2
            exact bodyPost_ret (v := .bool false) (by simp [results, Tryz.results78, go_sem]) rfl ⟨rfl, below_drewN HBX.out _⟩
          · cases b2
            · have hRf : R = false := HNOT.out (by rw [HOK.out]; rfl)
              subst hRf
              go_wp2
              go_quiet ((go_at_call 74; first | with_reducible exact Calls.quiet_of_same (hq1 _) | with_reducible exact Calls.quiet_of_same (hq2 _)))
              go_wp2
              exact bodyPost_ret (v := .bool false) (by simp [results, Tryz.results78, go_sem]) rfl ⟨rfl, below_drewN HBX.out _⟩
            · by_cases h0 : 0 < j
              · obtain ⟨i, hi⟩ : ∃ i, j - 1 = i := ⟨_, rfl⟩
                have p0 := hp2 h0
                rw [hi] at p0
                have e1 : IntKind.i64.wrap ((j : Int) - 1) = (i : Int) := by rw [IntWalk.i64_in _ (by omega)]; omega
                have i3 : (i : Int) < (L.length : Int) := by omega
                have i4 : (0 : Int) ≤ (i : Int) := by omega
                have h0' : (0 : Int) < (j : Int) := by omega
                clear hp2
                by_cases hlt2 : pr < nd
                · have hd : decide (nd ≤ pr) = false := by simp; omega
                  go_wp2
                  go_quiet ((go_at_call 74; first | with_reducible exact Calls.quiet_of_same (hq1 _) | with_reducible exact Calls.quiet_of_same (hq2 _)))
                  go_wp2
                  go_roundg (L.length - (j + 1))
                  case measure => omega
                  case rel =>
                    refine ⟨j + 1, by omega, rfl, by go_num, ?_, HT.out.2.2.1 (fun _ => hlt2), ?_, below_drewN HBX.out _⟩
                    · rw [HT.out.1, List.all_append, HX.out.1]; simp [HOK.out]
                    · exact (Below.heap_alloc _ _ _ hxlt).trans HX.out.2.2.1
                · have hRf : R = false := by rw [HR2.out]; simp [HT.out.2.2.2 h0 hlt2]
                  subst hRf
                  have hd : nd ≤ pr := by omega
                  go_wp2
                  go_quiet ((go_at_call 74; first | with_reducible exact Calls.quiet_of_same (hq1 _) | with_reducible exact Calls.quiet_of_same (hq2 _)))
                  go_wp2
                  exact bodyPost_ret (v := .bool false) (by simp [results, Tryz.results78, go_sem]) rfl ⟨rfl, below_drewN HBX.out _⟩
              · have hd : decide ((0 : Int) < (j : Int)) = false := by simp; omega
                have hj0 : ¬ (0 : Int) < (j : Int) := by omega
                go_wp2
                go_quiet ((go_at_call 74; first | with_reducible exact Calls.quiet_of_same (hq1 _) | with_reducible exact Calls.quiet_of_same (hq2 _)))
                go_wp2
                go_roundg (L.length - (j + 1))
                case measure => omega
                case rel =>
                  refine ⟨j + 1, by omega, rfl, by go_num, ?_, HT.out.2.2.1 (fun h => absurd h h0), ?_, below_drewN HBX.out _⟩
                  · rw [HT.out.1, List.all_append, HX.out.1]; simp [HOK.out]
                  · exact (Below.heap_alloc _ _ _ hxlt).trans HX.out.2.2.1
        · have i1 : ¬ (j : Int) < (L.length : Int) := by omega
          have hkl : L.take j = L := List.take_of_length_le (by omega)
          have hRt : R = true := by
            rw [HR2.out]
            have h1 := HX.out.1
            have h2 := HX.out.2.1
            rw [hkl] at h1 h2
            simp [h1, h2]
          subst hRt
          go_wp2
          exact bodyPost_ret (v := .bool true) (by simp [results, Tryz.results78, go_sem]) rfl ⟨rfl, HX.out.2.2.2⟩
end Go.Proofs.YtcpaaleogmiamaaGreatDoor
