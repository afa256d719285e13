/- The walk of flock.commit. -/
import Derived.Test.YtdchjepahgecgaaGreatDoorMq12
import Derived.Test.YtdchjepahgecgaaGreatDoorMq14
import Derived.Deep.RegionHeld3
import Derived.Deep.CutBlock
namespace Go.Proofs.YtdchjepahgecgaaGreatDoor
open Go.RowKit

/-- A request; its records are not looked at. -/
structure Rq where
  client : Int
  n : Int
  kind : Int
  part : Int
  seq : Int
  off : Int
  max : Int
  gen : Int
  group : List UInt8
  member : List UInt8
  ra : Option Addr
  rl : Nat
  rc : Nat
abbrev Rq.v (q : Rq) : Value := .agg #[.int .i64 q.client, .int .i64 q.n, .int .i64 q.kind, .int .i64 q.part, .int .i64 q.seq, .int .i64 q.off, .int .i64 q.max, .int .i64 q.gen, .string (bs q.group), .string (bs q.member), .slice q.ra q.rl q.rc]
abbrev Rq.box (q : Rq) : Obj := .cells #[.int .i64 q.client, .int .i64 q.n, .int .i64 q.kind, .int .i64 q.part, .int .i64 q.seq, .int .i64 q.off, .int .i64 q.max, .int .i64 q.gen, .string (bs q.group), .string (bs q.member), .slice q.ra q.rl q.rc] 34

def mayCommit (f : Fk) (is : Bool) (q : Rq) : Bool := is && (decide (q.gen = f.gen) && ((ownerP f.parts f.members q.part).2 && decide ((ownerP f.parts f.members q.part).1 = q.member)))
def encPoint (off gen : Int) : List UInt8 := 108 :: ([encI off, encI gen].flatten ++ [101])
/-- The record that a commit brings. -/
def commitP (f : Fk) (is : Bool) (q : Rq) : List UInt8 × List UInt8 :=
  if mayCommit f is q = true then (if offB q.off = true then (99 :: (Lib.itoa q.part ++ q.group), encPoint q.off q.gen) else ([110], encNo 1)) else ([110], encNo 30)

theorem ownerP_part {parts : Int} {l : List (List UInt8)} {p : Int} (h : (ownerP parts l p).2 = true) : 0 ≤ p ∧ p ≤ 1000 := by
  unfold ownerP at h
  cases hf : (assignP parts l).find? (fun o => o.1 == p) with
  | none => rw [hf] at h; cases h
  | some o =>
    have h1 := List.find?_some hf
    have h2 := List.mem_of_find?_eq_some hf
    have h3 : o.1 = p := by simpa using h1
    have hn : ∀ (n m : Int) (l : List (List UInt8)) (k : Nat) (o : Int × List UInt8), o ∈ ownersTo n m l k → 0 ≤ o.1 ∧ o.1 ≤ ((ownersTo n m l k).length : Int) := by
      intro n m l k
      induction k with
      | zero => intro o ho; simp [ownersTo] at ho
      | succ k ih =>
        intro o ho
        rw [ownersTo] at ho ⊢
        rcases List.mem_append.1 ho with ho | ho
        · have := ih o ho
          simp only [List.length_append, List.length_map, List.length_range]
          omega
        · obtain ⟨j, hj, rfl⟩ := List.mem_map.1 ho
          have hj' := List.mem_range.1 hj
          simp only [List.length_append, List.length_map, List.length_range]
          omega
    have hlen := assignP_len parts l
    unfold assignP at h2 hlen
    split at h2
    · rename_i hok
      rw [if_pos hok] at hlen
      have := hn _ _ _ _ o h2
      omega
    · simp at h2

set_option maxRecDepth 100000 in
set_option maxHeartbeats 4000000 in
theorem commit_any {w : World} {f : Fk} {ma : Option Addr} {mc : Nat} {pa : Option Addr} {pl pc : Nat} (hm : Strs w (.slice ma f.members.length mc) f.members) (is : Bool) (q : Rq) (hgen : I64 f.gen) (hgl : q.group.length ≤ 100000) (hE : Env w) :
    Calls Tryz.prog 33 #[.agg #[.string (bs f.name), .int .i64 f.gen, .int .i64 f.parts, .slice ma f.members.length mc, .slice pa pl pc], .bool is, q.v] w (RecTo w (commitP f is q).1 (commitP f is q).2) := by
  obtain ⟨wa, hwa⟩ : ∃ wa, wa = ((w.alloc (.cells #[.string (bs f.name), .int .i64 f.gen, .int .i64 f.parts, .slice ma f.members.length mc, .slice pa pl pc] 44)).alloc q.box).alloc (.cells #[.int .i64 0, .string ⟨#[]⟩, .string ⟨#[]⟩, .bool false] 28) := ⟨_, rfl⟩
  have hb1 : Below w.heap.size w wa := by rw [hwa]; exact below_alloc3 _ _ _ _
  have hN0 : wa.heap[w.heap.size]? = some (.cells #[.string (bs f.name), .int .i64 f.gen, .int .i64 f.parts, .slice ma f.members.length mc, .slice pa pl pc] 44 (0, 0)) := by
    rw [hwa, Below.heap_alloc _ _ _ (by simp; omega), Below.heap_alloc _ _ _ (by simp)]; exact heap_alloc_new w _
  have hN1 : wa.heap[w.heap.size + 1]? = some q.box := by rw [hwa, Below.heap_alloc _ _ _ (by simp)]; exact heap_new1 w _ _
  have hN2 : wa.heap[w.heap.size + 2]? = some (.cells #[.int .i64 0, .string ⟨#[]⟩, .string ⟨#[]⟩, .bool false] 28 (0, 0)) := by rw [hwa]; exact heap_new2 w _ _ _
  have hsz : wa.heap.size = w.heap.size + 3 := by rw [hwa]; simp
  have hk : ∀ W, Below wa.heap.size wa W → (W.cell? ⟨w.heap.size, 1, none⟩ = some (.int .i64 f.gen) ∧ W.cell? ⟨w.heap.size, 2, none⟩ = some (.int .i64 f.parts) ∧ W.cell? ⟨w.heap.size, 3, none⟩ = some (.slice ma f.members.length mc)) ∧
      (W.cell? ⟨w.heap.size + 1, 3, none⟩ = some (.int .i64 q.part) ∧ W.cell? ⟨w.heap.size + 1, 5, none⟩ = some (.int .i64 q.off) ∧ W.cell? ⟨w.heap.size + 1, 7, none⟩ = some (.int .i64 q.gen) ∧ W.cell? ⟨w.heap.size + 1, 8, none⟩ = some (.string (bs q.group)) ∧ W.cell? ⟨w.heap.size + 1, 9, none⟩ = some (.string (bs q.member))) ∧
      W.heap[w.heap.size + 2]? = some (.cells #[.int .i64 0, .string ⟨#[]⟩, .string ⟨#[]⟩, .bool false] 28 (0, 0)) ∧ Below w.heap.size w W := by
    intro W hb
    have b0 := (hb.block w.heap.size (by omega)).trans hN0
    have b1 := (hb.block (w.heap.size + 1) (by omega)).trans hN1
    exact ⟨⟨cells_of b0 1 _ rfl, cells_of b0 2 _ rfl, cells_of b0 3 _ rfl⟩, ⟨cells_of b1 3 _ rfl, cells_of b1 5 _ rfl, cells_of b1 7 _ rfl, cells_of b1 8 _ rfl, cells_of b1 9 _ rfl⟩, (hb.block (w.heap.size + 2) (by omega)).trans hN2, hb1.trans (hb.mono (by omega))⟩
  obtain ⟨o, ho⟩ : ∃ o, ownerP f.parts f.members q.part = o := ⟨_, rfl⟩
  have how : Calls Tryz.prog 18 #[.int .i64 f.parts, .slice ma f.members.length mc, .int .i64 q.part] wa fun e w' => e = .returned (.tuple #[.string (bs o.1), .bool o.2]) ∧ Below wa.heap.size wa w' := by
    rw [← ho]; exact SOwner_any (hm.below hb1) f.parts q.part
  have hno : ∀ W c, I64 c → Below wa.heap.size wa W → Calls Tryz.prog 34 #[.int .i64 c] W fun e w' => e = .returned (.agg #[.int .i64 0, .string (bs [110]), .string (bs (encNo c)), .bool false]) ∧ Below wa.heap.size wa w' := fun W c hc hb =>
    (no_any c hc (hE.below (hk W hb).2.2.2)).mono fun e w' ⟨h1, h2⟩ => ⟨h1, hb.trans (h2.mono hb.size)⟩
  obtain ⟨R, hR⟩ : ∃ R, commitP f is q = R := ⟨_, rfl⟩
  rw [hR]
  have HR := Lib.hid hR
  have HK := Lib.hid hk
  have HOW := Lib.hid how
  have HNO := Lib.hid hno
  have HO := Lib.hid ho
  have HE := Lib.hid (fun W (hb : Below wa.heap.size wa W) => hE.below (hk W hb).2.2.2)
  obtain ⟨⟨x1, x2, x3⟩, ⟨y3, -, -, -, -⟩, -, -⟩ := hk wa (Below.refl _ _)
  clear hk how hno hR ho hE hm hN0 hN1 hN2 hsz hb1
  simp only [Rq.box] at hwa
  go_enter Tryz.func33, Tryz.ntmps33
  go_upto_region 1 with fail
  rw [← hwa]
  clear hwa
  go_upto_block 0 with (first | (go_at_call 18; refine HOW.out.mono ?_; rintro _ w1 ⟨rfl, hb1⟩; have H1 := Lib.hid hb1; clear hb1))
  obtain ⟨⟨x1, x2, x3⟩, ⟨y3, y5, y7, y8, y9⟩, hbx, -⟩ := HK.out _ H1.out
  have HOFF : Hid ((decide (0 ≤ q.off) && decide (q.off ≤ 1099511627776)) = offB q.off) := Lib.hid rfl
  cases is with
  | false =>
    have hRR : R = ([110], encNo 30) := by rw [← HR.out]; simp [commitP, mayCommit]
    have HRR := Lib.hid hRR
    clear hRR
    go_wp2_with (first | (go_at_call 34; with_reducible refine (HNO.out _ 30 (by unfold I64; omega) H1.out).mono ?_; rintro _ w2 ⟨rfl, hb2⟩; have hk2 := HK.out _ hb2; have r0 := cells_of hk2.2.2.1 0 _ rfl; have r1 := cells_of hk2.2.2.1 1 _ rfl; have r2 := cells_of hk2.2.2.1 2 _ rfl; have r3 := cells_of hk2.2.2.1 3 _ rfl; have f0 := frozen_of (j := 0) hk2.2.2.1; have f1 := frozen_of (j := 1) hk2.2.2.1; have f2 := frozen_of (j := 2) hk2.2.2.1; have f3 := frozen_of (j := 3) hk2.2.2.1; have H2 := Lib.hid (And.intro hk2.2.2.1 hk2.2.2.2); clear hk2 hb2) | (go_at_call 54; refine (FisOff_any q.off _).mono ?_; rintro _ w9 ⟨rfl, rfl⟩; rw [HOFF.out]))
    try simp only [Exit.inBlock, Exit.then]
    obtain ⟨hz, hu⟩ := set4 H2.out.1 (.int .i64 0) (.string (bs [110])) (.string (bs (encNo 30))) (.bool false)
    have s0 := cells_of hz 0 _ rfl
    have s1 := cells_of hz 1 _ rfl
    have s2 := cells_of hz 2 _ rfl
    have s3 := cells_of hz 3 _ rfl
    exact bodyPost_ret (v := .agg #[.int .i64 0, .string (bs [110]), .string (bs (encNo 30)), .bool false]) (by simp [results, Tryz.results33, go_sem, s0, s1, s2, s3]) rfl ⟨by rw [HRR.out], H2.out.2.trans (hu.toBelow H2.out.2.size (fun k e => by omega))⟩
  | true =>
    by_cases g1 : q.gen = f.gen
    · have g1b : (q.gen != f.gen) = false := by simp [g1]
      obtain ⟨o1, o2⟩ := o
      simp only at *
      cases o2 with
      | false =>
        have G1 := Lib.hid g1
        have hRR : R = ([110], encNo 30) := by rw [← HR.out]; simp [commitP, mayCommit, HO.out]
        have HRR := Lib.hid hRR
        clear hRR
        go_wp2_with (first | (go_at_call 34; with_reducible refine (HNO.out _ 30 (by unfold I64; omega) H1.out).mono ?_; rintro _ w2 ⟨rfl, hb2⟩; have hk2 := HK.out _ hb2; have r0 := cells_of hk2.2.2.1 0 _ rfl; have r1 := cells_of hk2.2.2.1 1 _ rfl; have r2 := cells_of hk2.2.2.1 2 _ rfl; have r3 := cells_of hk2.2.2.1 3 _ rfl; have f0 := frozen_of (j := 0) hk2.2.2.1; have f1 := frozen_of (j := 1) hk2.2.2.1; have f2 := frozen_of (j := 2) hk2.2.2.1; have f3 := frozen_of (j := 3) hk2.2.2.1; have H2 := Lib.hid (And.intro hk2.2.2.1 hk2.2.2.2); clear hk2 hb2) | (go_at_call 54; refine (FisOff_any q.off _).mono ?_; rintro _ w9 ⟨rfl, rfl⟩; rw [HOFF.out]))
        try simp only [Exit.inBlock, Exit.then]
        obtain ⟨hz, hu⟩ := set4 H2.out.1 (.int .i64 0) (.string (bs [110])) (.string (bs (encNo 30))) (.bool false)
        have s0 := cells_of hz 0 _ rfl
        have s1 := cells_of hz 1 _ rfl
        have s2 := cells_of hz 2 _ rfl
        have s3 := cells_of hz 3 _ rfl
        exact bodyPost_ret (v := .agg #[.int .i64 0, .string (bs [110]), .string (bs (encNo 30)), .bool false]) (by simp [results, Tryz.results33, go_sem, s0, s1, s2, s3]) rfl ⟨by rw [HRR.out], H2.out.2.trans (hu.toBelow H2.out.2.size (fun k e => by omega))⟩
      | true =>
        have hbq := beq_dec o1 q.member
        by_cases g2 : o1 = q.member
        · rw [decide_eq_true g2] at hbq
          have G1 := Lib.hid g1
          have G2 := Lib.hid g2
          clear g2
          cases hof : offB q.off with
          | false =>
            rw [hof] at HOFF
            have HF := Lib.hid hof
            clear hof
            have hRR : R = ([110], encNo 1) := by rw [← HR.out]; simp [commitP, mayCommit, HO.out, G1.out, G2.out, HF.out]
            have HRR := Lib.hid hRR
            clear hRR
            go_wp2_with (first | (go_at_call 34; with_reducible refine (HNO.out _ 1 (by unfold I64; omega) H1.out).mono ?_; rintro _ w2 ⟨rfl, hb2⟩; have hk2 := HK.out _ hb2; have r0 := cells_of hk2.2.2.1 0 _ rfl; have r1 := cells_of hk2.2.2.1 1 _ rfl; have r2 := cells_of hk2.2.2.1 2 _ rfl; have r3 := cells_of hk2.2.2.1 3 _ rfl; have f0 := frozen_of (j := 0) hk2.2.2.1; have f1 := frozen_of (j := 1) hk2.2.2.1; have f2 := frozen_of (j := 2) hk2.2.2.1; have f3 := frozen_of (j := 3) hk2.2.2.1; have H2 := Lib.hid (And.intro hk2.2.2.1 hk2.2.2.2); clear hk2 hb2) | (go_at_call 54; refine (FisOff_any q.off _).mono ?_; rintro _ w9 ⟨rfl, rfl⟩; rw [HOFF.out]))
            try simp only [Exit.inBlock, Exit.then]
            obtain ⟨hz, hu⟩ := set4 H2.out.1 (.int .i64 0) (.string (bs [110])) (.string (bs (encNo 1))) (.bool false)
            have s0 := cells_of hz 0 _ rfl
            have s1 := cells_of hz 1 _ rfl
            have s2 := cells_of hz 2 _ rfl
            have s3 := cells_of hz 3 _ rfl
            exact bodyPost_ret (v := .agg #[.int .i64 0, .string (bs [110]), .string (bs (encNo 1)), .bool false]) (by simp [results, Tryz.results33, go_sem, s0, s1, s2, s3]) rfl ⟨by rw [HRR.out], H2.out.2.trans (hu.toBelow H2.out.2.size (fun k e => by omega))⟩
          | true =>
            rw [hof] at HOFF
            have hRR : R = (99 :: (Lib.itoa q.part ++ q.group), encPoint q.off q.gen) := by rw [← HR.out]; simp [commitP, mayCommit, HO.out, G1.out, G2.out, hof]
            have hpp : 0 ≤ q.part ∧ q.part ≤ 1000 := ownerP_part (parts := f.parts) (l := f.members) (by rw [HO.out])
            have hip : I64 q.part := ⟨by omega, by omega⟩
            have hio : I64 q.off := by
              simp only [offB, Bool.and_eq_true, decide_eq_true_eq] at hof
              exact ⟨by omega, by omega⟩
            have hig : I64 q.gen := by rw [g1]; exact hgen
            have HRR := Lib.hid hRR
            clear hRR hof
            go_upto_region 6 with (first | (go_at_call 54; refine (FisOff_any q.off _).mono ?_; rintro _ w9 ⟨rfl, rfl⟩; rw [HOFF.out]))
            have hit : ∀ W, Below wa.heap.size wa W → Calls Tryz.prog 75 #[.int .i64 q.part] W fun e w' => e = .returned (.string (bs (Lib.itoa q.part))) ∧ Below wa.heap.size wa w' := fun W hb => (Itoa_any hip W (HE.out W hb)).mono fun e w' ⟨h1, h2⟩ => ⟨h1, hb.trans (h2.mono hb.size)⟩
            have hin : ∀ W, Below wa.heap.size wa W → Calls Tryz.prog 77 #[.int .i64 q.off] W fun e w' => e = .returned (.string (bs (encI q.off))) ∧ Below wa.heap.size wa w' := fun W hb => (BInt_any hio W (HE.out W hb)).mono fun e w' ⟨h1, h2⟩ => ⟨h1, hb.trans (h2.mono hb.size)⟩
            have hgn : ∀ W, Below wa.heap.size wa W → Calls Tryz.prog 77 #[.int .i64 q.gen] W fun e w' => e = .returned (.string (bs (encI q.gen))) ∧ Below wa.heap.size wa w' := fun W hb => (BInt_any hig W (HE.out W hb)).mono fun e w' ⟨h1, h2⟩ => ⟨h1, hb.trans (h2.mono hb.size)⟩
            have hli : ∀ W, Below wa.heap.size wa W → Calls Tryz.prog 76 #[.slice (some ⟨W.heap.size, 0, none⟩) 2 2] (W.alloc (.cells #[.string (bs (encI q.off)), .string (bs (encI q.gen))] 9)) fun e w' => e = .returned (.string (bs (encPoint q.off q.gen))) ∧ Below wa.heap.size wa w' := fun W hb =>
              (BList_any (strs_alloc2 W (encI q.off) (encI q.gen)) (by simp) (by have := encI_len hio; have := encI_len hig; simp only [List.flatten_cons, List.flatten_nil, List.length_append, List.length_nil]; omega)).mono fun e w' ⟨h1, h2⟩ => ⟨h1, hb.trans ((below_trans (below_alloc _ _) h2).mono hb.size)⟩
            have hk1 : ¬ 9223372036854775807 < 1 + (bs (Lib.itoa q.part)).size := by have := Lib.itoa_length_le q.part hip.1 hip.2; rw [bs_size]; omega
            have hk2 : ¬ 9223372036854775807 < 1 + (bs (Lib.itoa q.part)).size + (bs q.group).size := by have := Lib.itoa_length_le q.part hip.1 hip.2; rw [bs_size, bs_size]; omega
            have hsp : ∀ W, Below wa.heap.size wa W → W.cell? ⟨w.heap.size + 1, 3, none⟩ = some (.int .i64 q.part) ∧ W.cell? ⟨w.heap.size + 1, 5, none⟩ = some (.int .i64 q.off) ∧ W.cell? ⟨w.heap.size + 1, 7, none⟩ = some (.int .i64 q.gen) ∧ W.cell? ⟨w.heap.size + 1, 8, none⟩ = some (.string (bs q.group)) := fun W hb => by
              obtain ⟨-, ⟨z3, z5, z7, z8, -⟩, -, -⟩ := HK.out W hb
              exact ⟨z3, z5, z7, z8⟩
            have HIT := Lib.hid hit
            have HIN := Lib.hid hin
            have HGN := Lib.hid hgn
            have HLI := Lib.hid hli
            have HSP := Lib.hid hsp
            have hb1 := H1.out
            clear g1 g1b hit hin hgn hli hsp hbx x1 x2 x3 y9 hbq HNO HOW
            go_region_held3 (fun W' => W'.cell? ⟨w.heap.size + 1, 3, none⟩ = some (.int .i64 q.part) ∧ W'.cell? ⟨w.heap.size + 1, 5, none⟩ = some (.int .i64 q.off) ∧ W'.cell? ⟨w.heap.size + 1, 7, none⟩ = some (.int .i64 q.gen) ∧ W'.cell? ⟨w.heap.size + 1, 8, none⟩ = some (.string (bs q.group)))
              (first | exact HSP.out _ (hb1.trans ((Below.refl _ _).drew.mono hb1.size)) | (have hg := hb6; first | exact HSP.out _ hg | go_keep) | (have hg := hb5; first | exact HSP.out _ hg | exact HSP.out _ (hg.alloc hg.size _)) | (have hg := hb4; exact HSP.out _ hg) | (have hg := hb3; exact HSP.out _ hg))
              (first
                | (go_at_call 75; refine (HIT.out _ (hb1.trans ((Below.refl _ _).drew.mono hb1.size))).mono ?_; rintro e w3 ⟨rfl, hb3⟩)
                | (go_at_call 77; with_reducible refine (HIN.out _ hb3).mono ?_; rintro e w4 ⟨rfl, hb4⟩)
                | (go_at_call 77; with_reducible refine (HGN.out _ hb4).mono ?_; rintro e w5 ⟨rfl, hb5⟩)
                | (go_at_call 76; refine (HLI.out _ hb5).mono ?_; rintro e w6 ⟨rfl, hb6⟩; have hk6 := HK.out _ hb6; have r0 := cells_of hk6.2.2.1 0 _ rfl; have r1 := cells_of hk6.2.2.1 1 _ rfl; have r2 := cells_of hk6.2.2.1 2 _ rfl; have r3 := cells_of hk6.2.2.1 3 _ rfl; have f0 := frozen_of (j := 0) hk6.2.2.1; have f1 := frozen_of (j := 1) hk6.2.2.1; have f2 := frozen_of (j := 2) hk6.2.2.1; have f3 := frozen_of (j := 3) hk6.2.2.1; have H6 := Lib.hid (And.intro hk6.2.2.1 hk6.2.2.2); clear hk6))
            all_goals
              have h6 : w6.heap[w.heap.size + 1 + 1]? = some (.cells #[.int .i64 0, .string ⟨#[]⟩, .string ⟨#[]⟩, .bool false] 28 (0, 0)) := H6.out.1
              obtain ⟨hz, hu⟩ := set4 h6 (.int .i64 0) (.string (⟨#[99]⟩ ++ bs (Lib.itoa q.part) ++ bs q.group)) (.string (bs (encPoint q.off q.gen))) (.bool false)
              have s0 := cells_of hz 0 _ rfl
              have s1 := cells_of hz 1 _ rfl
              have s2 := cells_of hz 2 _ rfl
              have s3 := cells_of hz 3 _ rfl
              have hkey : (⟨#[99]⟩ : ByteArray) ++ bs (Lib.itoa q.part) ++ bs q.group = bs (99 :: (Lib.itoa q.part ++ q.group)) := by rw [show (⟨#[99]⟩ : ByteArray) = bs [99] from rfl, bs_append, bs_append]; simp
              have HZ := Lib.hid (And.intro s0 (And.intro s1 (And.intro s2 (And.intro s3 (H6.out.2.trans (hu.toBelow H6.out.2.size (fun k e => by omega)))))))
              clear hz hu s0 s1 s2 s3
              go_wp2
              obtain ⟨s0, s1, s2, s3, hbz⟩ := HZ.out
              exact bodyPost_ret (v := .agg #[.int .i64 0, .string (⟨#[99]⟩ ++ bs (Lib.itoa q.part) ++ bs q.group), .string (bs (encPoint q.off q.gen)), .bool false]) (by simp [results, Tryz.results33, go_sem, s0, s1, s2, s3]) rfl ⟨by rw [HRR.out, hkey], hbz⟩
        · rw [decide_eq_false g2] at hbq
          have G1 := Lib.hid g1
          have hRR : R = ([110], encNo 30) := by rw [← HR.out]; simp [commitP, mayCommit, HO.out, g2]
          have HRR := Lib.hid hRR
          clear hRR
          go_wp2_with (first | (go_at_call 34; with_reducible refine (HNO.out _ 30 (by unfold I64; omega) H1.out).mono ?_; rintro _ w2 ⟨rfl, hb2⟩; have hk2 := HK.out _ hb2; have r0 := cells_of hk2.2.2.1 0 _ rfl; have r1 := cells_of hk2.2.2.1 1 _ rfl; have r2 := cells_of hk2.2.2.1 2 _ rfl; have r3 := cells_of hk2.2.2.1 3 _ rfl; have f0 := frozen_of (j := 0) hk2.2.2.1; have f1 := frozen_of (j := 1) hk2.2.2.1; have f2 := frozen_of (j := 2) hk2.2.2.1; have f3 := frozen_of (j := 3) hk2.2.2.1; have H2 := Lib.hid (And.intro hk2.2.2.1 hk2.2.2.2); clear hk2 hb2) | (go_at_call 54; refine (FisOff_any q.off _).mono ?_; rintro _ w9 ⟨rfl, rfl⟩; rw [HOFF.out]))
          try simp only [Exit.inBlock, Exit.then]
          obtain ⟨hz, hu⟩ := set4 H2.out.1 (.int .i64 0) (.string (bs [110])) (.string (bs (encNo 30))) (.bool false)
          have s0 := cells_of hz 0 _ rfl
          have s1 := cells_of hz 1 _ rfl
          have s2 := cells_of hz 2 _ rfl
          have s3 := cells_of hz 3 _ rfl
          exact bodyPost_ret (v := .agg #[.int .i64 0, .string (bs [110]), .string (bs (encNo 30)), .bool false]) (by simp [results, Tryz.results33, go_sem, s0, s1, s2, s3]) rfl ⟨by rw [HRR.out], H2.out.2.trans (hu.toBelow H2.out.2.size (fun k e => by omega))⟩
    · have g1b : (q.gen != f.gen) = true := by simp [g1]
      have hRR : R = ([110], encNo 30) := by rw [← HR.out]; simp [commitP, mayCommit, g1]
      have HRR := Lib.hid hRR
      clear hRR
      go_wp2_with (first | (go_at_call 34; with_reducible refine (HNO.out _ 30 (by unfold I64; omega) H1.out).mono ?_; rintro _ w2 ⟨rfl, hb2⟩; have hk2 := HK.out _ hb2; have r0 := cells_of hk2.2.2.1 0 _ rfl; have r1 := cells_of hk2.2.2.1 1 _ rfl; have r2 := cells_of hk2.2.2.1 2 _ rfl; have r3 := cells_of hk2.2.2.1 3 _ rfl; have f0 := frozen_of (j := 0) hk2.2.2.1; have f1 := frozen_of (j := 1) hk2.2.2.1; have f2 := frozen_of (j := 2) hk2.2.2.1; have f3 := frozen_of (j := 3) hk2.2.2.1; have H2 := Lib.hid (And.intro hk2.2.2.1 hk2.2.2.2); clear hk2 hb2) | (go_at_call 54; refine (FisOff_any q.off _).mono ?_; rintro _ w9 ⟨rfl, rfl⟩; rw [HOFF.out]))
      try simp only [Exit.inBlock, Exit.then]
      obtain ⟨hz, hu⟩ := set4 H2.out.1 (.int .i64 0) (.string (bs [110])) (.string (bs (encNo 30))) (.bool false)
      have s0 := cells_of hz 0 _ rfl
      have s1 := cells_of hz 1 _ rfl
      have s2 := cells_of hz 2 _ rfl
      have s3 := cells_of hz 3 _ rfl
      exact bodyPost_ret (v := .agg #[.int .i64 0, .string (bs [110]), .string (bs (encNo 30)), .bool false]) (by simp [results, Tryz.results33, go_sem, s0, s1, s2, s3]) rfl ⟨by rw [HRR.out], H2.out.2.trans (hu.toBelow H2.out.2.size (fun k e => by omega))⟩
end Go.Proofs.YtdchjepahgecgaaGreatDoor
