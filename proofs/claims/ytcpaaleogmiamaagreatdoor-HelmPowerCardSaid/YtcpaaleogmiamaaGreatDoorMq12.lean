/- A plan whose words lie above a mark: it is read whatever is written below. -/
/- The walks of plan.isPlace and plan.Good. -/
import Derived.Test.YtcpaaleogmiamaaGreatDoorMq11
import Derived.Test.YtcpaaleogmiamaaGreatDoorMq5
namespace Go.Proofs.YtcpaaleogmiamaaGreatDoor
open Go.RowKit

def PlanFrom (w : World) (N : Nat) (v : Value) (p : Pl) : Prop := ∀ (F : Nat → Prop) (W : World), (∀ k, F k → k < N) → Upd F w W → PlanRd W v p

theorem PlanFrom.rd {w : World} {N : Nat} {v : Value} {p : Pl} (h : PlanFrom w N v p) : PlanRd w v p := h (fun _ => False) w (fun _ h => h.elim) (Upd.refl _ _)

theorem PlanFrom.below {w w' : World} {N : Nat} {v : Value} {p : Pl} (h : PlanFrom w N v p) (hb : Below w.heap.size w w') : PlanFrom w' N v p :=
  fun F W hF hu => h F W hF (((Upd.of_below (F := F) hb)).trans hu)

theorem PlanFrom.mono {w : World} {N N' : Nat} {v : Value} {p : Pl} (h : PlanFrom w N v p) (hn : N' ≤ N) : PlanFrom w N' v p :=
  fun F W hF hu => h F W (fun k hk => by have := hF k hk; omega) hu

theorem PlanFrom.upd {w w' : World} {F : Nat → Prop} {N : Nat} {v : Value} {p : Pl} (h : PlanFrom w N v p) (hu : Upd F w w') (hF : ∀ k, F k → k < N) : PlanFrom w' N v p :=
  fun G W hG hu2 => h (fun k => F k ∨ G k) W (fun k hk => hk.elim (hF k) (hG k)) ((hu.mono (fun _ _ h => .inl h)).trans (hu2.mono (fun _ _ h => .inr h)))

/-- Parts and lives that the call owns. -/
theorem PlanFrom.of_owns {w : World} {N : Nat} {p : Pl} {pa la : Option Addr} {pc lc : Nat} {m : List (Value × Pt)} (h : OwnP w N (.slice pa p.parts.length pc) m) (he : m.map (·.2) = p.parts)
    (hl : w.ownsRow N 134 2 (.slice la p.lives.length lc) p.lives.length (lifeCells p.lives)) : PlanFrom w N (planV p pa pc la lc) p := by
  intro F W hF hu
  have h2 := h.low hu hF
  have hl2 := owns_upd hl hu (fun g hg hf => by have := (owns_lt hl g hg).1; have := hF g hf; omega)
  exact ⟨_, _, rfl, by have := h2.rd; rw [he] at this; exact this, LivesRd.of_owns hl2⟩

theorem PlanFrom.zero (w : World) (N : Nat) : PlanFrom w N (.agg #[.int .i64 0, .int .i64 0, .slice none 0 0, .slice none 0 0]) .zero :=
  fun _ _ _ _ => ⟨_, _, rfl, ⟨[], rfl, ⟨rfl, .inl ⟨rfl, rfl⟩⟩, by simp⟩, ⟨rfl, .inl ⟨rfl, rfl⟩⟩⟩

theorem PlanOwn.toFrom {w : World} {N pb : Nat} {p : Pl} {pa : Option Addr} {pc : Nat} {la : Option Addr} {lc : Nat} {m : List (Value × Pt)} (h : PlanOwn w N pb p pa pc la lc m) : PlanFrom w N (planV p pa pc la lc) p :=
  PlanFrom.of_owns h.parts h.eq h.lives
end Go.Proofs.YtcpaaleogmiamaaGreatDoor
namespace Go.Proofs.YtcpaaleogmiamaaGreatDoor
open Go.RowKit

def isPlaceB (x : Pt) (nodes : Int) : Bool :=
  (x.chain.all (fun n => inB n 1 nodes) && decide x.chain.Nodup) && (inB x.epoch 1 1073741824 && (decide (0 < x.chain.length) && (inB x.learner 0 nodes && !x.chain.contains x.learner)))

def seenM (l : List Int) : List (Int × Value) := l.map fun n => (n, .bool true)

theorem seen_get (l : List Int) (n : Int) : (mget (seenM l) n).getD (.bool false) = .bool (l.contains n) := by
  induction l with
  | nil => rfl
  | cons x l ih =>
    by_cases e : x = n
    · subst e; simp [mget, seenM]
    · have e1 : (x == n) = false := by simpa using e
      have e2 : (n == x) = false := by simpa using fun h => e h.symm
      simp only [mget, seenM, List.map_cons, List.find?_cons, e1, List.contains_cons, e2, Bool.false_or] at ih ⊢
      exact ih

theorem seen_put (l : List Int) (n : Int) (h : n ∉ l) : mput (seenM l) n (.bool true) = seenM (l ++ [n]) := by
  induction l with
  | nil => rfl
  | cons x l ih =>
    have e1 : (x == n) = false := by simp; intro e; exact h (by simp [e])
    have := ih (fun hx => h (List.mem_cons_of_mem _ hx))
    simp only [seenM, List.map_cons, mput, e1, List.cons_append] at this ⊢
    simp [this]

theorem look_seen {w : World} {B : Nat} {l : List Int} (h : MapIs w B (seenM l)) (n : Int) (w' : World) (hu : Upd (fun _ => False) w w') :
    (Instr.lookup 237 (.map (some B)) (.int .i64 n) false).run Tryz.prog w' = .ok (.bool (l.contains n)) w' := by
  have := run_lookup_ints und_mapBool und_int zero_bool (h.upd hu (fun h => h)) n false
  rw [seen_get] at this
  exact this

abbrev partV (x : Pt) (ca : Option Addr) (cc : Nat) : Value := .agg #[.int .i64 x.epoch, .slice ca x.chain.length cc, .int .i64 x.learner]

set_option maxRecDepth 100000 in
set_option maxHeartbeats 2000000 in
theorem isPlace_any {w : World} {ca : Option Addr} {cc : Nat} (x : Pt) (nodes : Int) (h : IntsRd w (.slice ca x.chain.length cc) x.chain) :
    Calls Tryz.prog 138 #[partV x ca cc, .int .i64 nodes] w fun e w' => e = .returned (.bool (isPlaceB x nodes)) ∧ Below w.heap.size w w' := by
  obtain ⟨ep, l, le⟩ := x
  obtain ⟨a, cap, e, hcap, hml, hC⟩ := h.cells
  simp only [Value.slice.injEq, true_and] at e
  obtain ⟨rfl, rfl⟩ := e
  have hml' : (l.length : Int) ≤ 9223372036854775807 := by have : maxLen = 9223372036854775807 := rfl; simp only at hml; omega
  have HC := Lib.hid hC
  clear h hC hcap hml
  obtain ⟨R, hR⟩ : ∃ R, isPlaceB ⟨ep, l, le⟩ nodes = R := ⟨_, rfl⟩
  rw [hR]
  unfold isPlaceB at hR
  simp only at *
  have HR := Lib.hid hR
  clear hR
  have hmm := @run_makeMap Tryz.prog
  go_enter Tryz.func138, Tryz.ntmps138
  go_wp2
  go_loopg [7, 12] l.length (fun gk _ i wr => ∃ k : Nat, k ≤ l.length ∧ gk = l.length - k ∧ i = .int .i64 k ∧ MapIs wr (w.heap.size + 1) (seenM (l.take k)) ∧ (l.take k).Nodup ∧ (l.take k).all (fun n => inB n 1 nodes) = true ∧
    wr.heap[w.heap.size]? = some (.cells #[.int .i64 ep, .slice ca l.length cc, .int .i64 le] 36 (0, 0)) ∧ Below w.heap.size w wr)
  case atStart =>
    refine ⟨0, Nat.zero_le _, rfl, rfl, ⟨#[], 0, ?_, rfl, MapKept.stamped_empty 0⟩, List.nodup_nil, rfl, ?_, below_alloc2 _ _ _⟩
    · exact heap_new1 _ _ _
    · rw [Below.heap_alloc _ _ _ (by simp)]; exact heap_alloc_new w _
  case round =>
    obtain ⟨k, hk, rfl, rfl, hm, hnd, hall, hx, hbel⟩ := hrel
    have HX := Lib.hid (And.intro hm (And.intro hnd (And.intro hall (And.intro hx hbel))))
    have hsz := hbel.size
    have hxlt : w.heap.size < wr.heap.size := (Array.getElem?_eq_some_iff.1 hx).1
    have hlk := fun n => look_seen hm n wr (Upd.refl _ _)
    clear hnd hall
    by_cases hlt : k < l.length
    · obtain ⟨b, off, rfl, hb, c0⟩ := HC.out k hlt
      have c0 := below_some hbel c0 hb
      have i1 : (k : Int) < (l.length : Int) := by omega
      have i2 : (0 : Int) ≤ (k : Int) := by omega
      have htk : l.take (k + 1) = l.take k ++ [l[k]] := by rw [List.take_succ_eq_append_getElem hlt]
      have hmem : l[k] ∈ l := List.getElem_mem hlt
      have hNd : l[k] ∈ l.take k → ¬ l.Nodup := by
        intro hin hno
        obtain ⟨j, hj, e⟩ := List.mem_iff_getElem.1 hin
        have hj' : j < k := by simp at hj; omega
        have := List.nodup_iff_pairwise_ne.1 hno
        have := List.pairwise_iff_getElem.1 this j k (by omega) hlt hj'
        simp at e
        exact this e
      have HT := Lib.hid (And.intro htk (And.intro hmem hNd))
      clear htk hmem hNd hm hx hbel
      generalize l[k] = y at *
      have hly := hlk y
      clear hlk
      by_cases hin : inB y 1 nodes = true
      · by_cases hse : (l.take k).contains y = true
        · rw [hse] at hly
          have hno : ¬ l.Nodup := HT.out.2.2 (by simpa using hse)
          have hRf : R = false := by rw [← HR.out]; simp [hno]
          subst hRf
          go_wp2_with (first | (go_at_call 74; refine (within_any _ _ _ _).mono ?_; rintro _ w1 ⟨rfl, rfl⟩; rw [hin]))
          exact bodyPost_ret (v := .bool false) (by simp [results, Tryz.results138, go_sem]) rfl ⟨rfl, HX.out.2.2.2.2⟩
        · have hse : (l.take k).contains y = false := by simpa using hse
          rw [hse] at hly
          obtain ⟨w6, hmu, hm6, hu6⟩ := mapUpdate_run und_mapBool und_int HX.out.1 y (.bool true)
          rw [seen_put _ _ (by simpa using hse), ← HT.out.1] at hm6
          have H6 := Lib.hid (And.intro hm6 hu6)
          clear hm6 hu6
          go_wp2_with (first | (go_at_call 74; refine (within_any _ _ _ _).mono ?_; rintro _ w1 ⟨rfl, rfl⟩; rw [hin]))
          go_roundg (l.length - (k + 1))
          case measure => omega
          case rel =>
            refine ⟨k + 1, by omega, rfl, by go_num, H6.out.1, ?_, ?_, ?_, ?_⟩
            · rw [HT.out.1]
              refine List.nodup_append.2 ⟨HX.out.2.1, by simp, ?_⟩
              intro a ha b hb e
              simp only [List.mem_singleton] at hb
              subst hb; subst e
              simp [ha] at hse
            · rw [HT.out.1, List.all_append, HX.out.2.2.1]; simp [hin]
            · rw [H6.out.2.block _ hxlt (by omega)]; exact HX.out.2.2.2.1
            · exact HX.out.2.2.2.2.trans (H6.out.2.toBelow hsz (fun b e => by omega))
      · have hin : inB y 1 nodes = false := by simpa using hin
        have hRf : R = false := by
          rw [← HR.out]
          have : l.all (fun n => inB n 1 nodes) = false := by
            rw [List.all_eq_false]
            exact ⟨y, HT.out.2.1, by simp [hin]⟩
          simp [this]
        subst hRf
        go_wp2_with (first | (go_at_call 74; refine (within_any _ _ _ _).mono ?_; rintro _ w1 ⟨rfl, rfl⟩; rw [hin]))
        exact bodyPost_ret (v := .bool false) (by simp [results, Tryz.results138, go_sem]) rfl ⟨rfl, HX.out.2.2.2.2⟩
    · have i1 : ¬ (k : Int) < (l.length : Int) := by omega
      have hkl : l.take k = l := List.take_of_length_le (by omega)
      have hR' : R = (inB ep 1 1073741824 && (decide (0 < l.length) && (inB le 0 nodes && !l.contains le))) := by
        rw [← HR.out]
        have h1 := HX.out.2.1
        have h2 := HX.out.2.2.1
        rw [hkl] at h1 h2
        simp [h1, h2]
      have hle := hlk le
      rw [hkl] at hle
      have x0 := cells_of hx 0 _ rfl
      have x1 := cells_of hx 1 _ rfl
      have x2 := cells_of hx 2 _ rfl
      clear hlk hm hx hbel hkl
      have HB := Lib.hid HX.out.2.2.2.2
      by_cases h1 : inB ep 1 1073741824 = true
      · by_cases h2 : 0 < l.length
        · have h2' : (0 : Int) < (l.length : Int) := by omega
          by_cases h3 : inB le 0 nodes = true
          · cases hc : l.contains le
            · rw [hc] at hle
              have hRt : R = true := by rw [hR', h1, h3, hc]; simp [h2]
              subst hRt
              clear hR'
              go_wp2_with (first | (go_at_call 74; refine (within_any _ _ _ _).mono ?_; rintro _ w1 ⟨rfl, rfl⟩; (first | rw [h1] | rw [h3])))
              exact bodyPost_ret (v := .bool true) (by simp [results, Tryz.results138, go_sem]) rfl ⟨rfl, HB.out⟩
            · rw [hc] at hle
              have hRt : R = false := by rw [hR', hc]; simp
              subst hRt
              clear hR'
              go_wp2_with (first | (go_at_call 74; refine (within_any _ _ _ _).mono ?_; rintro _ w1 ⟨rfl, rfl⟩; (first | rw [h1] | rw [h3])))
              exact bodyPost_ret (v := .bool false) (by simp [results, Tryz.results138, go_sem]) rfl ⟨rfl, HB.out⟩
          · have h3 : inB le 0 nodes = false := by simpa using h3
            have hRt : R = false := by rw [hR', h3]; simp
            subst hRt
            clear hR'
            go_wp2_with (first | (go_at_call 74; refine (within_any _ _ _ _).mono ?_; rintro _ w1 ⟨rfl, rfl⟩; (first | rw [h1] | rw [h3])))
            exact bodyPost_ret (v := .bool false) (by simp [results, Tryz.results138, go_sem]) rfl ⟨rfl, HB.out⟩
        · have h2' : ¬ (0 : Int) < (l.length : Int) := by omega
          have hRt : R = false := by rw [hR']; simp [h2]
          subst hRt
          clear hR'
          go_wp2_with (first | (go_at_call 74; refine (within_any _ _ _ _).mono ?_; rintro _ w1 ⟨rfl, rfl⟩; (first | rw [h1])))
          exact bodyPost_ret (v := .bool false) (by simp [results, Tryz.results138, go_sem]) rfl ⟨rfl, HB.out⟩
      · have h1 : inB ep 1 1073741824 = false := by simpa using h1
        have hRt : R = false := by rw [hR', h1]; simp
        subst hRt
        clear hR'
        go_wp2_with (first | (go_at_call 74; refine (within_any _ _ _ _).mono ?_; rintro _ w1 ⟨rfl, rfl⟩; (first | rw [h1])))
        exact bodyPost_ret (v := .bool false) (by simp [results, Tryz.results138, go_sem]) rfl ⟨rfl, HB.out⟩
end Go.Proofs.YtcpaaleogmiamaaGreatDoor
