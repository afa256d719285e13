/- A master that hears of three nodes through many rounds, in plain words. -/
/- plan.Wants hands back no row where nothing is wanted. (PlWo's walk.) -/
/- What HelmHears carries through its loops. -/
/- Parts of a function's text, taken out by their numbers. -/
import Derived.Test.YtcpaaleogmiamaaGreatDoorMh40
import Derived.Test.YtcpaaleogmiamaaGreatDoorMh19
import Derived.Test.YtcpaaleogmiamaaGreatDoorMh20
import Derived.Test.YtcpaaleogmiamaaGreatDoorMh43
import Derived.Test.YtcpaaleogmiamaaGreatDoorProg
namespace Go.Proofs.YtcpaaleogmiamaaGreatDoor
open Go.RowKit

abbrev hs0 : Pl := ⟨3, 3, [⟨1, [1, 2, 3], 0⟩, ⟨1, [2, 3, 1], 0⟩], []⟩
abbrev hs1 : Pl := ⟨3, 3, [⟨2, [1, 2, 3], 0⟩, ⟨2, [2, 3, 1], 0⟩], [(1, 1)]⟩
abbrev hs2 : Pl := ⟨3, 3, [⟨3, [1, 2, 3], 0⟩, ⟨3, [2, 3, 1], 0⟩], [(1, 1), (2, 1)]⟩
abbrev hs3 : Pl := ⟨3, 3, [⟨4, [1, 2, 3], 0⟩, ⟨4, [2, 3, 1], 0⟩], [(1, 1), (2, 1), (3, 1)]⟩
theorem hs_new : newP 3 2 3 = hs0 := by rfl
theorem hs_good : goodP hs0 = true ∧ goodP hs1 = true ∧ goodP hs2 = true ∧ goodP hs3 = true := by decide
theorem hs_boot1 : applyP hs0 ⟨1, 1, 0, 1⟩ = (hs1, [0, 1], 0) := by rfl
theorem hs_boot2 : applyP hs1 ⟨1, 2, 0, 1⟩ = (hs2, [0, 1], 0) := by rfl
theorem hs_boot3 : applyP hs2 ⟨1, 3, 0, 1⟩ = (hs3, [0, 1], 0) := by rfl
theorem hs_ep : EpLe hs0 1 := by
  intro y hy
  simp only [hs0, List.mem_cons, List.not_mem_nil, or_false] at hy
  rcases hy with rfl | rfl <;> decide

/-- The first beats. -/
theorem hs_beat {t : Tp} {p q : Pl} {n : Nat} {nd : Int} (h : Calm hs0 t p n) (hn : n ≤ 500) (ha : applyP p ⟨1, nd, 0, 1⟩ = (q, [0, 1], 0)) (hl : lifeP p.lives nd = 0) (hw : wantsP q nd = []) :
    (doR t p t.life false ⟨1, nd, 0, 1⟩).2.2.2 = 0 ∧ ∃ t1 E, beatR t.life nd 1 t p false = ((t1, q, false, 0), E) ∧ Calm hs0 t1 q (n + 1) ∧ t1.life = t.life := by
  rcases h.act hn ⟨1, nd, 0, 1⟩ with ⟨a, -⟩ | ⟨-, t1, b, c, d⟩
  · rw [ha] at a; exact absurd rfl a
  · rw [ha] at b c
    simp only at b c
    refine ⟨by rw [b], t1, (doE t p t.life false ⟨1, nd, 0, 1⟩ ++ []) ++ ownE q nd, ?_, c, d⟩
    rw [beatR, hl, if_pos (by decide), b]
    simp only
    rw [wantR, hw, show joinsR t.life nd [] t1 q false = ((t1, q, false, 0), []) from rfl]
    simp only
    rw [if_neg (fun h => h rfl)]

/-- What stands from round to round: at most k events lie on the tape; s1, s2, s3 are the ticks since each node was heard of. -/
structure Heard (t : Tp) (p : Pl) (M : List (Int × Int)) (k : Nat) (s1 s2 s3 : Int) : Prop where
  calm : Calm hs0 t p k
  good : goodP p = true
  same : SameC hs3 p
  miss1 : missG M 1 = s1
  miss2 : missG M 2 = s2
  miss3 : missG M 3 = s3
theorem Heard.lives {t : Tp} {p : Pl} {M : List (Int × Int)} {k : Nat} {s1 s2 s3 : Int} (h : Heard t p M k s1 s2 s3) : p.lives = [(1, 1), (2, 1), (3, 1)] := h.same.lives
theorem Heard.two {t : Tp} {p : Pl} {M : List (Int × Int)} {k : Nat} {s1 s2 s3 : Int} (h : Heard t p M k s1 s2 s3) : p.parts.length = 2 := h.same.parts
theorem Heard.nodes {t : Tp} {p : Pl} {M : List (Int × Int)} {k : Nat} {s1 s2 s3 : Int} (h : Heard t p M k s1 s2 s3) : p.nodes = 3 := h.same.nodes

theorem Heard.mono {t : Tp} {p : Pl} {M : List (Int × Int)} {k k' : Nat} {s1 s2 s3 : Int} (h : Heard t p M k s1 s2 s3) (hk : k ≤ k') : Heard t p M k' s1 s2 s3 := ⟨h.calm.mono hk, h.good, h.same, h.miss1, h.miss2, h.miss3⟩
theorem Heard.begin {t : Tp} (h : Calm hs0 t hs3 3) (M : List (Int × Int)) (h1 : missG M 1 = 0) (h2 : missG M 2 = 0) (h3 : missG M 3 = 0) : Heard t hs3 M 3 0 0 0 :=
  ⟨h, hs_good.2.2.2, .refl _, h1, h2, h3⟩

theorem inc3 (M : List (Int × Int)) (n : Int) : missG (incM [(1, 1), (2, 1), (3, 1)] M) n = missG M n + (if n = 1 ∨ n = 2 ∨ n = 3 then 1 else 0) := by
  simp only [incM, missG_P]
  by_cases h3 : n = 3
  · subst h3; simp
  · by_cases h2 : n = 2
    · subst h2; simp
    · by_cases h1 : n = 1
      · subst h1; simp
      · simp [h1, h2, h3]

theorem Heard.tick {t : Tp} {p : Pl} {M : List (Int × Int)} {k : Nat} {s1 s2 s3 : Int} (h : Heard t p M k s1 s2 s3) (hk : k + 3 ≤ 500) :
    ∃ t' p' E, deadsR t.life (incM p.lives M) p.lives t p false = ((t', p', false, 0), E) ∧ t'.life = t.life ∧ Heard t' p' (incM p.lives M) (k + 3) (s1 + 1) (s2 + 1) (s3 + 1) ∧
      (4 < s1 + 1 → ∀ y ∈ p'.parts, NotIn 1 y) ∧ (4 < s2 + 1 → ∀ y ∈ p'.parts, NotIn 2 y) ∧ (4 < s3 + 1 → ∀ y ∈ p'.parts, NotIn 3 y) := by
  have hl := h.lives
  have hn := h.nodes
  obtain ⟨t', p', E, a, b, c, d, e, -, g⟩ := deads_calm hs_ep (incM p.lives M) p.lives h.calm (by rw [hl]; simpa using hk) h.good (by
    intro l hl'
    rw [hl] at hl'
    rw [hn]
    simp only [List.mem_cons, List.not_mem_nil, or_false] at hl'
    rcases hl' with rfl | rfl | rfl <;> decide)
  have m1 := inc3 M 1
  have m2 := inc3 M 2
  have m3 := inc3 M 3
  rw [← hl] at m1 m2 m3
  simp only [h.miss1, h.miss2, h.miss3, true_or, or_true, if_true] at m1 m2 m3
  rw [hl] at b
  refine ⟨t', p', E, a, c, ⟨by simpa using b, e, h.same.trans d, m1, m2, m3⟩, fun h4 => ?_, fun h4 => ?_, fun h4 => ?_⟩
  · exact g (1, 1) (by rw [hl]; simp) (by rw [m1]; exact h4)
  · exact g (2, 1) (by rw [hl]; simp) (by rw [m2]; exact h4)
  · exact g (3, 1) (by rw [hl]; simp) (by rw [m3]; exact h4)

theorem Heard.beat {t : Tp} {p : Pl} {M : List (Int × Int)} {k : Nat} {s1 s2 s3 : Int} (h : Heard t p M k s1 s2 s3) (hk : k + 2 ≤ 500) {nd : Int} (hnd : nd = 1 ∨ nd = 2 ∨ nd = 3) :
    ∃ t' p' E, beatR t.life nd 1 t p false = ((t', p', false, 0), E ++ ownE p' nd) ∧ t'.life = t.life ∧
      Heard t' p' (missP M nd 0) (k + 2) (if nd = 1 then 0 else s1) (if nd = 2 then 0 else s2) (if nd = 3 then 0 else s3) ∧ wantsP p' nd = [] ∧
      ∀ j (hj : j < p.parts.length) (hj' : j < p'.parts.length), p'.parts[j].chain = p.parts[j].chain := by
  have hl := h.lives
  have hn := h.nodes
  have hlp : lifeP p.lives nd = 1 := by rw [hl]; rcases hnd with rfl | rfl | rfl <;> rfl
  have h13 : 1 ≤ nd ∧ nd ≤ p.nodes := by rw [hn]; omega
  have hwl : (wantsP p nd).length ≤ 2 := by
    have := placesB_length (wantP p nd) p.parts
    rw [h.two] at this
    exact this
  obtain ⟨w1, w2⟩ := wants_of (p := p) (n := nd)
  obtain ⟨t', p', E, a, b, c, d, e, f⟩ := joins_calm hs_ep nd (wantsP p nd) h.calm (by omega) h.good h13 (by rw [hlp]; decide) w1 w2
  refine ⟨t', p', E, ?_, c, ⟨b.mono (by omega), e, h.same.trans d, ?_, ?_, ?_⟩, wants_none h13.1 d f, fun j hj hj' => (f j hj hj').1⟩
  · rw [beatR, hlp, if_neg (by decide), wantR, a]
    simp only
    rw [if_neg (fun h => h rfl)]
    rfl
  all_goals rw [missG_P]
  · rw [h.miss1]; rcases hnd with rfl | rfl | rfl <;> rfl
  · rw [h.miss2]; rcases hnd with rfl | rfl | rfl <;> rfl
  · rw [h.miss3]; rcases hnd with rfl | rfl | rfl <;> rfl

theorem ownE_len (q : Pl) (nd : Int) : (ownE q nd).length = q.parts.length := by simp [ownE]
theorem ownE_at (q : Pl) (nd : Int) (k : Nat) (hk : k < q.parts.length) : (ownE q nd)[k]'(by rw [ownE_len]; exact hk) = ⟨(k : Int), q.parts[k].epoch, q.parts[k].learner, nd, q.lives.length⟩ := by
  simp [ownE, atP_lt hk]
end Go.Proofs.YtcpaaleogmiamaaGreatDoor
namespace Go.Proofs.YtcpaaleogmiamaaGreatDoor
open Go.RowKit

set_option maxRecDepth 100000 in
set_option maxHeartbeats 4000000 in
theorem Wants_nil {w : World} {v : Value} {p : Pl} (h : PlanRd w v p) (hl4 : p.parts.length ≤ 1000) (n : Int) (hno : wantsP p n = []) : Calls Tryz.prog 19 #[v, .int .i64 n] w fun e w' =>
    e = .returned (.slice none 0 0) ∧ Below w.heap.size w w' := by
  obtain ⟨pv, lv, rfl, hp, hl⟩ := h
  obtain ⟨nodes, copies, P, L⟩ := p
  simp only at hp hl hl4 hno ⊢
  obtain ⟨pa, pc, rfl, -, -, hP⟩ := hp.cells
  obtain ⟨la, lc, rfl, -, -, -⟩ := hl.cells
  obtain ⟨i1, ki, kz0, kz1, kz2⟩ := info_parts info_Int
  have HP := Lib.hid hP
  have hpl : (P.length : Int) ≤ 1000 := by omega
  clear hp hl hP
  obtain ⟨f, hf⟩ : ∃ f : Pt → Bool, f = wantP ⟨nodes, copies, P, L⟩ n := ⟨_, rfl⟩
  have hw : wantsP ⟨nodes, copies, P, L⟩ n = placesB f P := by unfold wantsP; rw [hf]
  rw [hw] at hno
  have hnf : ∀ k (hk : k < P.length), f P[k] = false := fun k hk => by
    have := placesB_nil.1 hno _ (List.getElem_mem hk)
    simpa using this
  have HNF := Lib.hid hnf
  have HF := Lib.hid hf
  clear hw hf hnf hno
  go_enter Tryz.func19, Tryz.ntmps19
  go_wp2
  go_loopg [5, 6, 7, 11] P.length (fun gk out _ _ i wr => ∃ (k : Nat), k ≤ P.length ∧ gk = P.length - k ∧ i = .int .i64 k ∧ out = .slice none 0 0 ∧
    wr.heap[w.heap.size]? = some (.cells #[.int .i64 nodes, .int .i64 copies, .slice pa P.length pc, .slice la L.length lc] 52 (0, 0)) ∧ Below w.heap.size w wr)
  case atStart =>
    exact ⟨0, Nat.zero_le _, rfl, rfl, rfl, heap_alloc_new _ _, below_alloc _ _⟩
  case round =>
    obtain ⟨k, hk, rfl, rfl, rfl, hx, hbel⟩ := hrel
    have hsz := hbel.size
    have hxlt : w.heap.size < wr.heap.size := (Array.getElem?_eq_some_iff.1 hx).1
    by_cases hlt : k < P.length
    · obtain ⟨b, off, ca, cc, rfl, hb, c0, c1, c2, hch⟩ := HP.out k hlt
      have c0 := below_some hbel c0 hb
      have c1 := below_some hbel c1 hb
      have c2 := below_some hbel c2 hb
      have hch2 := (hch.below hbel).below (below_alloc wr (.cells #[.int .i64 P[k].epoch, .slice ca P[k].chain.length cc, .int .i64 P[k].learner] 36))
      have hxz := (Below.heap_alloc wr (.cells #[.int .i64 P[k].epoch, .slice ca P[k].chain.length cc, .int .i64 P[k].learner] 36) _ hxlt).trans hx
      have HZ := Lib.hid (And.intro hxz (hbel.alloc hsz (.cells #[.int .i64 P[k].epoch, .slice ca P[k].chain.length cc, .int .i64 P[k].learner] 36)))
      have hx0 := cells_of hxz 0 _ rfl
      have hx1 := cells_of hxz 1 _ rfl
      have i1' : (k : Int) < (P.length : Int) := by omega
      have i2 : (0 : Int) ≤ (k : Int) := by omega
      have hfy : false = (inB n 1 nodes && (decide ((P[k].chain.length : Int) < copies) && (decide (P[k].learner = 0) && !P[k].chain.contains n))) := by rw [← HNF.out k hlt, HF.out]; rfl
      have HFY := Lib.hid hfy
      have HCH := Lib.hid hch2
      clear hfy hch hch2 hxz hx hbel
      generalize P[k] = y at *
      obtain ⟨ep, ch, le⟩ := y
      simp only at *
      obtain ⟨b1, hb1⟩ : ∃ b1, inB n 1 nodes = b1 := ⟨_, rfl⟩
      obtain ⟨b4, hb4⟩ : ∃ b4, ch.contains n = b4 := ⟨_, rfl⟩
      rw [hb1, hb4] at HFY
      have HB1 := Lib.hid hb1
      have HB4 := Lib.hid hb4
      clear hb1 hb4
      cases b1
      · go_wp2_with (first | (go_at_call 74; refine (within_any _ _ _ _).mono ?_; rintro _ w1 ⟨rfl, rfl⟩; rw [HB1.out]) | (go_at_call 75; refine (Contains_any HCH.out n).mono ?_; rintro _ w1 ⟨rfl, rfl⟩; rw [HB4.out]))
        go_roundg (P.length - (k + 1))
        case measure => omega
        case rel => exact ⟨k + 1, by omega, rfl, by go_num, rfl, HZ.out.1, HZ.out.2⟩
      · by_cases h2 : (ch.length : Int) < copies
        · by_cases h3 : le = 0
          · subst h3
            cases b4
            · exact absurd HFY.out (by simp [h2])
            · go_wp2_with (first | (go_at_call 74; refine (within_any _ _ _ _).mono ?_; rintro _ w1 ⟨rfl, rfl⟩; rw [HB1.out]) | (go_at_call 75; refine (Contains_any HCH.out n).mono ?_; rintro _ w1 ⟨rfl, rfl⟩; rw [HB4.out]))
              go_roundg (P.length - (k + 1))
              case measure => omega
              case rel => exact ⟨k + 1, by omega, rfl, by go_num, rfl, HZ.out.1, HZ.out.2⟩
          · go_wp2_with (first | (go_at_call 74; refine (within_any _ _ _ _).mono ?_; rintro _ w1 ⟨rfl, rfl⟩; rw [HB1.out]) | (go_at_call 75; refine (Contains_any HCH.out n).mono ?_; rintro _ w1 ⟨rfl, rfl⟩; rw [HB4.out]))
            go_roundg (P.length - (k + 1))
            case measure => omega
            case rel => exact ⟨k + 1, by omega, rfl, by go_num, rfl, HZ.out.1, HZ.out.2⟩
        · go_wp2_with (first | (go_at_call 74; refine (within_any _ _ _ _).mono ?_; rintro _ w1 ⟨rfl, rfl⟩; rw [HB1.out]) | (go_at_call 75; refine (Contains_any HCH.out n).mono ?_; rintro _ w1 ⟨rfl, rfl⟩; rw [HB4.out]))
          go_roundg (P.length - (k + 1))
          case measure => omega
          case rel => exact ⟨k + 1, by omega, rfl, by go_num, rfl, HZ.out.1, HZ.out.2⟩
    · have i1' : ¬ (k : Int) < (P.length : Int) := by omega
      clear hx
      go_wp2
      go_ret
      exact ⟨rfl, hbel⟩
end Go.Proofs.YtcpaaleogmiamaaGreatDoor
namespace Go.Proofs.YtcpaaleogmiamaaGreatDoor
open Go.RowKit

/-- The plan and the misses behind the first beats. -/
def hsP : Nat → Pl
  | 0 => hs0 | 1 => hs1 | 2 => hs2 | _ => hs3
def hsM : Nat → List (Int × Int)
  | 0 => [] | 1 => [(1, 0)] | 2 => [(1, 0), (2, 0)] | _ => [(1, 0), (2, 0), (3, 0)]

theorem hs_first (k : Nat) (hk : k < 3) : goodP (hsP k) = true ∧ (1 ≤ (k : Int) + 1 ∧ (k : Int) + 1 ≤ (hsP k).nodes) ∧ lifeP (hsP k).lives ((k : Int) + 1) = 0 ∧ missP (hsM k) ((k : Int) + 1) 0 = hsM (k + 1) ∧
    ∀ t : Tp, Calm hs0 t (hsP k) k → (doR t (hsP k) t.life false ⟨1, (k : Int) + 1, 0, 1⟩).2.2.2 = 0 ∧ ∃ t1 E, beatR t.life ((k : Int) + 1) 1 t (hsP k) false = ((t1, hsP (k + 1), false, 0), E) ∧ Calm hs0 t1 (hsP (k + 1)) (k + 1) ∧ t1.life = t.life := by
  match k, hk with
  | 0, _ => exact ⟨hs_good.1, by decide, rfl, rfl, fun t h => hs_beat h (by omega) hs_boot1 rfl rfl⟩
  | 1, _ => exact ⟨hs_good.2.1, by decide, rfl, rfl, fun t h => hs_beat h (by omega) hs_boot2 rfl rfl⟩
  | 2, _ => exact ⟨hs_good.2.2.1, by decide, rfl, rfl, fun t h => hs_beat h (by omega) hs_boot3 rfl rfl⟩

theorem hsOpen {w0 W : World} {b mb : Nat} {L : TpL} {t : Tp} (hE : Env w0) (h0 : Below w0.heap.size w0 W) (hab : ∀ k, TpF b mb L k → w0.heap.size ≤ k) (ht : TpAt W b mb L t) (hd : t.down = false) {t' : Tp} {p' : Pl} (hr : openR t hs0 = (t', p', 0)) :
    Calls Tryz.prog 14 #[.pointer (some ⟨b, 0, none⟩), .agg #[.int .i64 3, .int .i64 0, .int .i64 2, .int .i64 3, .int .i64 0, .int .i64 0, .int .i64 0, .int .i64 0]] W fun e w' =>
      ∃ L' hb q v, e = .returned (.tuple #[.pointer (some ⟨hb, 0, none⟩), .int .i64 0]) ∧ HmW w0 w' hb b mb q L' t' v p' [] t.life false := by
  have h := HOpen_any hE h0 hab ht hd 3 2 3 0 0 0 0 0 (by decide)
  rw [hs_new, hr] at h
  refine Calls.mono h ?_
  rintro e w' ⟨L', hb, -, -, he, -, q, v, -, hm, -⟩
  exact ⟨L', hb, q, v, he, hm⟩

/-- The array of what has gone by since each node was heard of. -/
abbrev sinceA (s1 s2 s3 : Int) : Array Value := #[.int .i64 0, .int .i64 s1, .int .i64 s2, .int .i64 s3]

/-- The master beside the array, ahead of a round. -/
structure Hs (wA w : World) (b mb sb : Nat) (kn j : Nat) (hb q : Nat) (L : TpL) (t : Tp) (v : Value) (P : Pl) (M : List (Int × Int)) (s1 s2 s3 : Int) : Prop where
  hm : HmW wA w hb b mb q L t v P M t.life false
  off : PlanOff w (fun i => HmF hb b mb q L i ∨ i = sb) v P
  arr : w.heap[sb]? = some (.cells (sinceA s1 s2 s3) 48 (0, 0))
  heard : Heard t P M kn s1 s2 s3
  most : ∀ n, 0 ≤ missG M n ∧ missG M n ≤ j

section
variable {wA w w' : World} {b mb sb : Nat} {kn j hb q : Nat} {L : TpL} {t : Tp} {v : Value} {P : Pl} {M : List (Int × Int)} {s1 s2 s3 : Int}

theorem Hs.notF (h : Hs wA w b mb sb kn j hb q L t v P M s1 s2 s3) : ¬ HmF hb b mb q L sb := h.hm.notKind h.arr (by decide) (by decide) (by decide)
theorem Hs.below (h : Hs wA w b mb sb kn j hb q L t v P M s1 s2 s3) (hb' : Below w.heap.size w w') : Hs wA w' b mb sb kn j hb q L t v P M s1 s2 s3 :=
  ⟨h.hm.below hb', h.off.below hb', (hb'.block _ (Array.getElem?_eq_some_iff.1 h.arr).1).trans h.arr, h.heard, h.most⟩
theorem Hs.mono (h : Hs wA w b mb sb kn j hb q L t v P M s1 s2 s3) {kn' : Nat} (hk : kn ≤ kn') : Hs wA w b mb sb kn' j hb q L t v P M s1 s2 s3 := ⟨h.hm, h.off, h.arr, h.heard.mono hk, h.most⟩
theorem Hs.cells (h : Hs wA w b mb sb kn j hb q L t v P M s1 s2 s3) : w.cell? ⟨sb, 1, none⟩ = some (.int .i64 s1) ∧ w.cell? ⟨sb, 2, none⟩ = some (.int .i64 s2) ∧ w.cell? ⟨sb, 3, none⟩ = some (.int .i64 s3) ∧ ∀ i, w.frozen? ⟨sb, i, none⟩ = false :=
  ⟨cells_of h.arr 1 _ rfl, cells_of h.arr 2 _ rfl, cells_of h.arr 3 _ rfl, fun _ => frozen_of h.arr⟩
theorem Hs.bounds (h : Hs wA w b mb sb kn j hb q L t v P M s1 s2 s3) : (0 ≤ s1 ∧ s1 ≤ j) ∧ (0 ≤ s2 ∧ s2 ≤ j) ∧ (0 ≤ s3 ∧ s3 ≤ j) :=
  ⟨by rw [← h.heard.miss1]; exact h.most 1, by rw [← h.heard.miss2]; exact h.most 2, by rw [← h.heard.miss3]; exact h.most 3⟩
theorem Hs.keep (h : Hs wA w b mb sb kn j hb q L t v P M s1 s2 s3) : KeepAt (fun Z => Z = fun i => i = sb) w hb b mb q L v P := by
  rintro Z rfl
  exact ⟨fun k e => by rw [e]; exact (Array.getElem?_eq_some_iff.1 h.arr).1, h.off⟩
theorem Hs.ready (h : Hs wA w b mb sb kn j hb q L t v P M s1 s2 s3) : readyB t t.life false = false := by
  obtain ⟨es, h1, -⟩ := h.heard.calm.disk
  simp [readyB, h1.down]

/-- The array as it stands while the counts go up: the master stays as it is. -/
theorem Hs.moved (h : Hs wA w b mb sb kn j hb q L t v P M s1 s2 s3) (hsb : wA.heap.size ≤ sb) (hu : Upd (fun i => i = sb) w w') {x1 x2 x3 : Int} (hx : w'.heap[sb]? = some (.cells (sinceA x1 x2 x3) 48 (0, 0))) :
    HmW wA w' hb b mb q L t v P M t.life false ∧ PlanOff w' (fun i => HmF hb b mb q L i ∨ i = sb) v P ∧ w'.heap[sb]? = some (.cells (sinceA x1 x2 x3) 48 (0, 0)) :=
  ⟨h.hm.other hu h.notF hsb h.off, h.off.upd hu (fun i e => .inr e), hx⟩
/-- Behind a tick. -/
theorem Hs.ticked (h : Hs wA w b mb sb kn j hb q L t v P M s1 s2 s3) {w6 w7 : World} (hx6 : w6.heap[sb]? = some (.cells (sinceA (s1 + 1) (s2 + 1) (s3 + 1)) 48 (0, 0))) {L7 : TpL} {t7 : Tp} {v7 : Value} {P7 : Pl}
    (hm7 : HmW wA w7 hb b mb q L7 t7 v7 P7 (incM P.lives M) t.life false) (hl : t7.life = t.life) (hu7 : Upd (HmF hb b mb q L) w6 w7) (ho7 : PlanOff w7 (fun i => HmF hb b mb q L7 i ∨ i = sb) v7 P7) (hd : Heard t7 P7 (incM P.lives M) (kn + 3) (s1 + 1) (s2 + 1) (s3 + 1)) :
    Hs wA w7 b mb sb (kn + 3) (j + 1) hb q L7 t7 v7 P7 (incM P.lives M) (s1 + 1) (s2 + 1) (s3 + 1) := by
  refine ⟨by rw [hl]; exact hm7, ho7, (hu7.block sb (Array.getElem?_eq_some_iff.1 hx6).1 h.notF).trans hx6, hd, fun n => ?_⟩
  have h1 := h.most n
  rw [h.heard.lives, inc3]
  split <;> omega
end

theorem contains_take {l : List Int} {j : Nat} (h : j < l.length) (n : Int) : (l.take (j + 1)).contains n = ((l.take j).contains n || (l[j] == n)) := by
  have e : l.take (j + 1) = l.take j ++ [l[j]] := by rw [List.take_add_one, List.getElem?_eq_getElem h]; rfl
  rw [e]
  refine Bool.eq_iff_iff.2 ?_
  simp only [List.contains_eq_mem, decide_eq_true_eq, List.mem_append, List.mem_singleton, Bool.or_eq_true, beq_iff_eq]
  exact ⟨fun h => h.imp id Eq.symm, fun h => h.imp id Eq.symm⟩
end Go.Proofs.YtcpaaleogmiamaaGreatDoor
namespace Go.Proofs.YtcpaaleogmiamaaGreatDoor

/-- The region of this number in a function's text. -/
def subR (n : Nat) : Code → Option Code
  | .region i o d => if i = n then some (.region i o d) else none
  | .seq a b => match subR n a with
    | some c => some c
    | none => subR n b
  | .cond _ a b => match subR n a with
    | some c => some c
    | none => subR n b
  | .block _ b => subR n b
  | .loop b => subR n b
  | _ => none
/-- The block of this number. -/
def subB (n : Nat) : Code → Option Code
  | .seq a b => match subB n a with
    | some c => some c
    | none => subB n b
  | .cond _ a b => match subB n a with
    | some c => some c
    | none => subB n b
  | .block i b => if i = n then some (.block i b) else subB n b
  | .loop b => subB n b
  | _ => none
/-- The branch of the test on this slot: what is done if it holds. -/
def subC (n : Nat) : Code → Option Code
  | .seq a b => match subC n a with
    | some c => some c
    | none => subC n b
  | .cond (.tmp k) a b => if k = n then some a else match subC n a with
    | some c => some c
    | none => subC n b
  | .cond _ a b => match subC n a with
    | some c => some c
    | none => subC n b
  | .block _ b => subC n b
  | .loop b => subC n b
  | _ => none
end Go.Proofs.YtcpaaleogmiamaaGreatDoor
