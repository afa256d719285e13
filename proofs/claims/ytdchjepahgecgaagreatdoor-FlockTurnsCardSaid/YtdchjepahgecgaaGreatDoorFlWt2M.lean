/- FlockTurns: the loop over the members. -/
import Derived.Test.YtdchjepahgecgaaGreatDoorMq42
import Derived.Test.YtdchjepahgecgaaGreatDoorSub
import Derived.Deep.DeepCutAuto
import Derived.BigQuiet
namespace Go.Proofs.YtdchjepahgecgaaGreatDoor
open Go.RowKit

/-- A region that draws its order, whose operations leave all below N alone. -/
theorem wp_region_belowF {P : Program} {id : Nat} {Q : Exit → Act → World → Prop} {a : Act} {w : World} {l : List Oper} (N : Nat) (hm : P.follows .mixedOrders = true) (hB : Region.lexB .any l.toArray = true)
    (h : wpQuiet P l.toArray (fun w' => Below N w w') (fun a' => ∀ w', Below N w w' → Q .normal a' w') l a) : (Code.region id l.toArray true).wp P Q a w :=
  wp_region_quiet (C := fun w' => Below N w w') hm hB (Below.refl _ _).drew (by simpa using h)

set_option maxRecDepth 100000 in
set_option maxHeartbeats 8000000 in
theorem turns_b2 {c : Code} (hc : Tryz.f4.body.bind (subB 2) = some c) {W : World} {qb sb nb rb : Nat} {q : Rq} {W1 V : Fk} {R : Rs} {ma pa na oa ra : Option Addr} {mc pc nc oc rc : Nat}
    (hq : RqAt W qb 0 q) (hs : GrpAt W sb W1 ma mc pa pc) (hn : GrpAt W nb V na nc oa oc) (hstay : ∀ m ∈ W1.members, m ≠ q.member → m ∈ V.members)
    {J : Act → World → Prop} {E : Exit → Act → World → Prop} {u0 u1 u2 u3 u4 u5 u6 u8 u9 u10 u12 u14 u15 u17 u18 u19 u20 u21 u22 u23 u24 u25 u26 u27 u28 u29 u30 u31 u32 u33 u34 u35 u36 u37 u38 u39 u40 u41 u42 u43 u44 u45 u46 u47 u48 u49 u50 u51 u52 u53 u54 u55 u56 u57 u58 u59 u60 u61 u62 u63 u64 u65 u66 u67 u68 u69 u70 u71 u72 u73 u74 u75 u76 u77 u78 u79 u80 u81 u82 u83 u84 u85 u86 u87 u88 u89 u90 u91 u92 u93 u94 u95 u96 u97 u98 u99 u100 u101 u102 u103 u104 u105 u106 u107 u108 u109 u110 u111 u112 u113 u114 u115 u116 u117 u118 u119 u120 u121 u122 u123 u124 u125 u126 u127 u128 u129 u130 u131 u132 u133 u134 u135 u136 u137 u138 u139 u140 u141 u142 u143 u144 u145 u146 u147 u148 u149 u150 u151 u152 u153 u154 u155 u156 u157 u158 u159 u160 u161 u162 u163 u164 u165 u166 u167 u168 u169 u170 u171 u172 u173 u174 u175 u176 u177 u178 u179 u180 u181 u182 u183 u184 u185 u186 u187 u188 u189 u190 u191 u192 u193 u194 u195 u196 u197 u198 u199 u200 u201 u202 u203 u204 u205 u206 u207 u208 u209 u210 u211 u212 u213 u214 u215 u216 u217 u218 u219 u220 u221 u222 u223 u224 u225 u226 u227 u228 u229 u230 u231 u232 u233 u234 u235 u236 u237 u238 u239 u240 u241 u242 u243 u244 u245 u246 u247 u248 u249 u250 u251 u252 u253 u254 u255 u256 u257 u258 u259 u260 u261 u262 u263 u264 u265 u266 u267 u268 u269 u270 u271 u272 u273 u274 : Value}
    (hJ : ∀ a' w', (∃ t4 t16 t158 t159 t160 t161 t162 t163 t164 t165 t166 t167 t168 t169 t170 t171 t172 t173 t174 t175 t176 t177 t178 t179 t180 t181 t182 t183 : Value, Below W.heap.size W w' ∧ a' = { tmps := #[u0, u1, u2, u3, t4, u5, u6, .pointer (some ⟨qb, 0, none⟩), u8, u9, u10, .pointer (some ⟨sb, 0, none⟩), u12, .pointer (some ⟨nb, 0, none⟩), u14, u15, t16, u17, u18, u19, u20, u21, u22, u23, u24, u25, u26, u27, u28, u29, u30, u31, u32, u33, u34, u35, u36, u37, u38, u39, u40, u41, u42, u43, u44, u45, u46, u47, u48, u49, u50, u51, u52, u53, u54, u55, u56, u57, u58, u59, u60, u61, u62, u63, u64, u65, u66, u67, u68, u69, u70, u71, u72, u73, u74, u75, u76, u77, u78, u79, u80, u81, u82, u83, u84, u85, u86, u87, u88, u89, u90, u91, u92, u93, u94, u95, u96, u97, u98, u99, u100, u101, u102, u103, u104, u105, u106, u107, u108, u109, u110, u111, u112, u113, u114, u115, u116, u117, u118, u119, u120, u121, u122, u123, u124, u125, u126, u127, u128, u129, u130, u131, u132, u133, u134, u135, u136, u137, u138, u139, u140, u141, u142, u143, u144, u145, u146, u147, u148, u149, u150, u151, u152, u153, u154, u155, u156, u157, t158, t159, t160, t161, t162, t163, t164, t165, t166, t167, t168, t169, t170, t171, t172, t173, t174, t175, t176, t177, t178, t179, t180, t181, t182, t183, u184, u185, u186, u187, u188, u189, u190, u191, u192, u193, u194, u195, u196, u197, u198, u199, u200, u201, u202, u203, u204, u205, u206, u207, u208, u209, u210, u211, u212, u213, u214, u215, u216, u217, u218, u219, u220, u221, u222, u223, u224, u225, u226, u227, u228, u229, u230, u231, u232, u233, u234, u235, u236, u237, u238, u239, u240, u241, u242, u243, u244, u245, u246, u247, u248, u249, u250, u251, u252, u253, u254, u255, u256, u257, u258, u259, u260, u261, u262, u263, u264, u265, u266, u267, u268, u269, u270, u271, u272, u273, u274], defers := [] }) → J a' w') :
    Code.wp Tryz.prog c (Exit.then J E) { tmps := #[u0, u1, u2, u3, u4, u5, u6, .pointer (some ⟨qb, 0, none⟩), u8, u9, u10, .pointer (some ⟨sb, 0, none⟩), u12, .pointer (some ⟨nb, 0, none⟩), u14, u15, .int .i64 0, u17, u18, u19, u20, u21, u22, u23, u24, u25, u26, u27, u28, u29, u30, u31, u32, u33, u34, u35, u36, u37, u38, u39, u40, u41, u42, u43, u44, u45, u46, u47, u48, u49, u50, u51, u52, u53, u54, u55, u56, u57, u58, u59, u60, u61, u62, u63, u64, u65, u66, u67, u68, u69, u70, u71, u72, u73, u74, u75, u76, u77, u78, u79, u80, u81, u82, u83, u84, u85, u86, u87, u88, u89, u90, u91, u92, u93, u94, u95, u96, u97, u98, u99, u100, u101, u102, u103, u104, u105, u106, u107, u108, u109, u110, u111, u112, u113, u114, u115, u116, u117, u118, u119, u120, u121, u122, u123, u124, u125, u126, u127, u128, u129, u130, u131, u132, u133, u134, u135, u136, u137, u138, u139, u140, u141, u142, u143, u144, u145, u146, u147, u148, u149, u150, u151, u152, u153, u154, u155, u156, u157, u158, u159, u160, u161, u162, u163, u164, u165, u166, u167, u168, u169, u170, u171, u172, u173, u174, u175, u176, u177, u178, u179, u180, u181, u182, u183, u184, u185, u186, u187, u188, u189, u190, u191, u192, u193, u194, u195, u196, u197, u198, u199, u200, u201, u202, u203, u204, u205, u206, u207, u208, u209, u210, u211, u212, u213, u214, u215, u216, u217, u218, u219, u220, u221, u222, u223, u224, u225, u226, u227, u228, u229, u230, u231, u232, u233, u234, u235, u236, u237, u238, u239, u240, u241, u242, u243, u244, u245, u246, u247, u248, u249, u250, u251, u252, u253, u254, u255, u256, u257, u258, u259, u260, u261, u262, u263, u264, u265, u266, u267, u268, u269, u270, u271, u272, u273, u274], defers := [] } W := by
  obtain rfl := Option.some.inj ((rfl : Tryz.f4.body.bind (subB 2) = some _).symm.trans hc)
  have HJ := Lib.hid hJ
  clear hc hJ
  dsimp only
  have hqb : qb < W.heap.size := World.block_lt_of_cell? W _ hq.1
  obtain ⟨sa, sc, e, -, hsm, hC⟩ := hs.2.1.cells
  simp only [Value.slice.injEq, true_and] at e
  obtain ⟨e1, e2⟩ := e
  subst e1 e2
  have hml : (W1.members.length : Int) ≤ 9223372036854775807 := by have : maxLen = 9223372036854775807 := rfl; omega
  have hk : ∀ W', Below W.heap.size W W' → RqAt W' qb 0 q ∧ GrpAt W' sb W1 ma mc pa pc ∧ GrpAt W' nb V na nc oa oc := fun W' hb => ⟨hq.below hqb hb, hs.below hb, hn.below hb⟩
  have HK := Lib.hid hk
  have HC := Lib.hid hC
  have HST := Lib.hid hstay
  clear hq hs hn hk hC hstay hsm
  go_wp2
  go_loopg [16] W1.members.length (fun gk i wr => ∃ k : Nat, k ≤ W1.members.length ∧ gk = W1.members.length - k ∧ i = .int .i64 k ∧ Below W.heap.size W wr)
  case atStart => exact ⟨0, Nat.zero_le _, rfl, rfl, Below.refl _ _⟩
  case round =>
    obtain ⟨k, hkl, rfl, rfl, hbel⟩ := hrel
    have hszr := hbel.size
    obtain ⟨hq0, hs0, hn0⟩ := HK.out _ hbel
    obtain ⟨x0, x1, x2, x3, x4, x5, x6, x7, x8, x9, x10⟩ := hq0
    obtain ⟨s0, s1, s2, s3, s4⟩ := hs0.cells
    by_cases hlt : k < W1.members.length
    · obtain ⟨b, off, rfl, hb, c0⟩ := HC.out k hlt
      have i1 : (k : Int) < (W1.members.length : Int) := by omega
      have i2 : (0 : Int) ≤ (k : Int) := by omega
      have hget : ∀ W', Below wr.heap.size wr W' → (W'.cell? ⟨sb, 3, none⟩ = some (.slice (some ⟨b, off, none⟩) W1.members.length mc) ∧ W'.cell? ⟨nb, 3, none⟩ = some (.slice na V.members.length nc)) ∧ W'.cell? ⟨b, off + k, none⟩ = some (.string (bs W1.members[k])) ∧ W'.cell? ⟨qb, 9, none⟩ = some (.string (bs q.member)) := by
        intro W' hb'
        have h2 := hbel.trans (hb'.mono hszr)
        obtain ⟨y1, y2, y3⟩ := HK.out _ h2
        exact ⟨⟨(y2.cells).2.2.2.1, (y3.cells).2.2.2.1⟩, below_some h2 c0 hb, (rq_limbs y1).2.2.2.2.2.2.2.2.2.1⟩
      have hmb : W1.members[k] ≠ q.member → ∀ W', Below wr.heap.size wr W' → Calls Tryz.prog 17 #[.slice na V.members.length nc, .string (bs W1.members[k])] W' fun e w' => e = .returned (.bool true) ∧ Below wr.heap.size wr w' := by
        intro hne W' hb'
        have := member_any (HK.out _ (hbel.trans (hb'.mono hszr))).2.2.2.1 W1.members[k]
        rw [any_mem, decide_eq_true (HST.out _ (List.getElem_mem hlt) hne)] at this
        refine this.mono ?_
        rintro e w' ⟨rfl, rfl⟩
        exact ⟨rfl, hb'⟩
      have HG := Lib.hid hget
      have hbq := beq_dec W1.members[k] q.member
      clear hget s0 s1 s2 s4 x0 x1 x2 x3 x4 x5 x6 x7 x8 x10 hs0 hn0
      by_cases e : W1.members[k] = q.member
      · rw [decide_eq_true e] at hbq
        have heq : (bs W1.members[k]).toList = (bs q.member).toList := by rw [e]
        clear hmb e
        generalize W1.members[k] = m at *
        go_upto_region 26 with fail
        refine wp_region_belowF wr.heap.size (by kernel_rfl) (by kernel_rfl) ?_
        iterate 19 (first
          | go_big_quiet_skip
          | (go_big_quiet_want; rename_i K hK
             unfold Oper.quiet
             apply Exists.intro
             refine ⟨fun w' hw' => ?_, hK _ ?_⟩
             · obtain ⟨⟨g1, g2⟩, g3, g4⟩ := HG.out w' hw'
               unfold Oper.quietAt
               go_simp
               first
                 | with_reducible rfl
                 | with_reducible rfl
             clear hK K
             simp only [Act.put, List.setIfInBounds_toArray, List.set_cons_zero, List.set_cons_succ]))
        refine wpQuiet_nil ?_
        intro wz hwz
        go_wp2
        go_roundg (W1.members.length - (k + 1))
        case measure => omega
        case rel => exact ⟨k + 1, by omega, rfl, by go_num, hbel.trans (hwz.mono hszr)⟩
      · rw [decide_eq_false e] at hbq
        have HMB := Lib.hid (hmb e)
        have hne : ¬ (bs W1.members[k]).toList = (bs q.member).toList := by rw [bs_toList, bs_toList]; exact e
        clear hmb e
        generalize W1.members[k] = m at *
        go_upto_region 26 with fail
        refine wp_region_belowF wr.heap.size (by kernel_rfl) (by kernel_rfl) ?_
        iterate 19 (first
          | go_big_quiet_skip
          | (go_big_quiet_want; rename_i K hK
             unfold Oper.quiet
             apply Exists.intro
             refine ⟨fun w' hw' => ?_, hK _ ?_⟩
             · obtain ⟨⟨g1, g2⟩, g3, g4⟩ := HG.out w' hw'
               unfold Oper.quietAt
               go_simp
               first
                 | with_reducible rfl
                 | with_reducible exact HMB.out w' hw'
             clear hK K
             simp only [Act.put, List.setIfInBounds_toArray, List.set_cons_zero, List.set_cons_succ]))
        refine wpQuiet_nil ?_
        intro wz hwz
        go_wp2
        go_roundg (W1.members.length - (k + 1))
        case measure => omega
        case rel => exact ⟨k + 1, by omega, rfl, by go_num, hbel.trans (hwz.mono hszr)⟩
    · have i1 : ¬ (k : Int) < (W1.members.length : Int) := by omega
      have HB := Lib.hid hbel
      clear hbel
      go_wp2
      refine HJ.out _ _ ?_
      repeat apply Exists.intro
      exact ⟨HB.out, rfl⟩
end Go.Proofs.YtdchjepahgecgaaGreatDoor
