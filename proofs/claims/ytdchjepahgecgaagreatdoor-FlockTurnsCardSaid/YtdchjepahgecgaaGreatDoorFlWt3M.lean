/- FlockTurns: the loop over the groups. -/
import Derived.Test.YtdchjepahgecgaaGreatDoorFlWt0M
import Derived.Deep.DeepCutAuto
import Derived.BigQuiet
namespace Go.Proofs.YtdchjepahgecgaaGreatDoor
open Go.RowKit

/-- A region that draws its order, whose operations leave all below N alone. -/
theorem wp_region_belowG {P : Program} {id : Nat} {Q : Exit → Act → World → Prop} {a : Act} {w : World} {l : List Oper} (N : Nat) (hm : P.follows .mixedOrders = true) (hB : Region.lexB .any l.toArray = true)
    (h : wpQuiet P l.toArray (fun w' => Below N w w') (fun a' => ∀ w', Below N w w' → Q .normal a' w') l a) : (Code.region id l.toArray true).wp P Q a w :=
  wp_region_quiet (C := fun w' => Below N w w') hm hB (Below.refl _ _).drew (by simpa using h)

set_option maxRecDepth 100000 in
set_option maxHeartbeats 8000000 in
theorem turns_b4 {c : Code} (hc : Tryz.f4.body.bind (subB 4) = some c) {W : World} {qb sb nb rb : Nat} {q : Rq} {W1 V : Fk} {R : Rs} {ma pa na oa ra : Option Addr} {mc pc nc oc rc : Nat}
    (hq : RqAt W qb 0 q) (hs : GrpAt W sb W1 ma mc pa pc) (hn : GrpAt W nb V na nc oa oc) {la : Option Addr} {lcap : Nat} {v4 : Value} {L N : List Fk} (hL : FksRd W (.slice la L.length lcap) L) (hN : FksRd W v4 N) (hL4 : L.length ≤ 4) (hstill : ∀ y ∈ L, hasFk N y.name = true ∧ (y.name ≠ q.group → grp N y.name = y))
    {J : Act → World → Prop} {E : Exit → Act → World → Prop} {u0 u1 u2 u3 u4 u6 u8 u10 u11 u12 u13 u14 u15 u16 u18 u19 u20 u21 u22 u23 u24 u25 u26 u27 u28 u29 u30 u31 u32 u33 u34 u35 u36 u37 u38 u39 u40 u41 u42 u43 u44 u45 u46 u47 u48 u49 u50 u51 u52 u53 u54 u55 u56 u57 u58 u59 u60 u61 u62 u63 u64 u65 u66 u67 u68 u69 u70 u71 u72 u73 u74 u75 u76 u77 u78 u79 u80 u81 u82 u83 u84 u85 u86 u87 u88 u89 u90 u91 u92 u93 u94 u95 u96 u97 u98 u99 u100 u101 u102 u103 u104 u105 u106 u107 u108 u109 u110 u111 u112 u113 u114 u115 u116 u117 u118 u119 u120 u121 u122 u123 u124 u125 u126 u127 u128 u129 u130 u131 u132 u133 u134 u135 u136 u137 u138 u139 u140 u141 u142 u143 u144 u145 u146 u147 u148 u149 u150 u151 u152 u153 u154 u155 u156 u157 u158 u159 u160 u161 u162 u163 u164 u165 u166 u167 u168 u169 u170 u171 u172 u173 u174 u175 u176 u177 u178 u179 u180 u181 u182 u183 u184 u185 u186 u187 u188 u189 u190 u191 u192 u193 u194 u195 u196 u197 u198 u199 u200 u201 u202 u203 u204 u205 u206 u207 u208 u209 u210 u211 u212 u213 u214 u215 u216 u217 u218 u219 u220 u221 u222 u223 u224 u225 u226 u227 u228 u229 u230 u231 u232 u233 u234 u235 u236 u237 u238 u239 u240 u241 u242 u243 u244 u245 u246 u247 u248 u249 u250 u251 u252 u253 u254 u255 u256 u257 u258 u259 u260 u261 u262 u263 u264 u265 u266 u267 u268 u269 u270 u271 u272 u273 u274 : Value}
    (hJ : ∀ a' w', (∃ t4 t17 t18 t19 t184 t185 t186 t187 t188 t189 t190 t191 t192 t193 t194 t195 t196 t197 t198 t199 t200 t201 t202 t203 t204 t205 t206 t207 t208 t209 t210 t211 t212 t213 t214 t215 t216 t217 t218 t219 t220 t221 t222 : Value, Below W.heap.size W w' ∧ a' = { tmps := #[u0, u1, u2, u3, t4, .slice la L.length lcap, u6, .pointer (some ⟨qb, 0, none⟩), u8, v4, u10, u11, u12, u13, u14, u15, u16, t17, t18, t19, u20, u21, u22, u23, u24, u25, u26, u27, u28, u29, u30, u31, u32, u33, u34, u35, u36, u37, u38, u39, u40, u41, u42, u43, u44, u45, u46, u47, u48, u49, u50, u51, u52, u53, u54, u55, u56, u57, u58, u59, u60, u61, u62, u63, u64, u65, u66, u67, u68, u69, u70, u71, u72, u73, u74, u75, u76, u77, u78, u79, u80, u81, u82, u83, u84, u85, u86, u87, u88, u89, u90, u91, u92, u93, u94, u95, u96, u97, u98, u99, u100, u101, u102, u103, u104, u105, u106, u107, u108, u109, u110, u111, u112, u113, u114, u115, u116, u117, u118, u119, u120, u121, u122, u123, u124, u125, u126, u127, u128, u129, u130, u131, u132, u133, u134, u135, u136, u137, u138, u139, u140, u141, u142, u143, u144, u145, u146, u147, u148, u149, u150, u151, u152, u153, u154, u155, u156, u157, u158, u159, u160, u161, u162, u163, u164, u165, u166, u167, u168, u169, u170, u171, u172, u173, u174, u175, u176, u177, u178, u179, u180, u181, u182, u183, t184, t185, t186, t187, t188, t189, t190, t191, t192, t193, t194, t195, t196, t197, t198, t199, t200, t201, t202, t203, t204, t205, t206, t207, t208, t209, t210, t211, t212, t213, t214, t215, t216, t217, t218, t219, t220, t221, t222, u223, u224, u225, u226, u227, u228, u229, u230, u231, u232, u233, u234, u235, u236, u237, u238, u239, u240, u241, u242, u243, u244, u245, u246, u247, u248, u249, u250, u251, u252, u253, u254, u255, u256, u257, u258, u259, u260, u261, u262, u263, u264, u265, u266, u267, u268, u269, u270, u271, u272, u273, u274], defers := [] }) → J a' w') :
    Code.wp Tryz.prog c (Exit.then J E) { tmps := #[u0, u1, u2, u3, u4, .slice la L.length lcap, u6, .pointer (some ⟨qb, 0, none⟩), u8, v4, u10, u11, u12, u13, u14, u15, u16, .int .i64 0, u18, u19, u20, u21, u22, u23, u24, u25, u26, u27, u28, u29, u30, u31, u32, u33, u34, u35, u36, u37, u38, u39, u40, u41, u42, u43, u44, u45, u46, u47, u48, u49, u50, u51, u52, u53, u54, u55, u56, u57, u58, u59, u60, u61, u62, u63, u64, u65, u66, u67, u68, u69, u70, u71, u72, u73, u74, u75, u76, u77, u78, u79, u80, u81, u82, u83, u84, u85, u86, u87, u88, u89, u90, u91, u92, u93, u94, u95, u96, u97, u98, u99, u100, u101, u102, u103, u104, u105, u106, u107, u108, u109, u110, u111, u112, u113, u114, u115, u116, u117, u118, u119, u120, u121, u122, u123, u124, u125, u126, u127, u128, u129, u130, u131, u132, u133, u134, u135, u136, u137, u138, u139, u140, u141, u142, u143, u144, u145, u146, u147, u148, u149, u150, u151, u152, u153, u154, u155, u156, u157, u158, u159, u160, u161, u162, u163, u164, u165, u166, u167, u168, u169, u170, u171, u172, u173, u174, u175, u176, u177, u178, u179, u180, u181, u182, u183, u184, u185, u186, u187, u188, u189, u190, u191, u192, u193, u194, u195, u196, u197, u198, u199, u200, u201, u202, u203, u204, u205, u206, u207, u208, u209, u210, u211, u212, u213, u214, u215, u216, u217, u218, u219, u220, u221, u222, u223, u224, u225, u226, u227, u228, u229, u230, u231, u232, u233, u234, u235, u236, u237, u238, u239, u240, u241, u242, u243, u244, u245, u246, u247, u248, u249, u250, u251, u252, u253, u254, u255, u256, u257, u258, u259, u260, u261, u262, u263, u264, u265, u266, u267, u268, u269, u270, u271, u272, u273, u274], defers := [] } W := by
  obtain rfl := Option.some.inj ((rfl : Tryz.f4.body.bind (subB 4) = some _).symm.trans hc)
  have HJ := Lib.hid hJ
  clear hc hJ
  dsimp only
  have hqb : qb < W.heap.size := World.block_lt_of_cell? W _ hq.1
  obtain ⟨a', cap', e, hlc, hml, hC⟩ := hL.cells
  simp only [Value.slice.injEq, true_and] at e
  obtain ⟨e1, e2⟩ := e
  subst e1 e2
  have hk : ∀ W', Below W.heap.size W W' → RqAt W' qb 0 q ∧ FksRd W' (.slice la L.length lcap) L ∧ FksRd W' v4 N ∧ qb < W'.heap.size := fun W' hb => ⟨hq.below hqb hb, hL.below hb, hN.below hb, by have := hb.size; omega⟩
  have HK := Lib.hid hk
  have HC := Lib.hid hC
  have HST := Lib.hid hstill
  clear hq hs hn hL hN hk hC hstill hml hlc
  go_wp2
  go_loopg [17] L.length (fun gk i wr => ∃ k : Nat, k ≤ L.length ∧ gk = L.length - k ∧ i = .int .i64 k ∧ Below W.heap.size W wr)
  case atStart => exact ⟨0, Nat.zero_le _, rfl, rfl, Below.refl _ _⟩
  case round =>
    obtain ⟨k, hkl, rfl, rfl, hbel⟩ := hrel
    have hszr := hbel.size
    have HB := Lib.hid hbel
    by_cases hlt : k < L.length
    · obtain ⟨b, off, ma0, mc0, pa0, pc0, rfl, hb, c0, -⟩ := HC.out k hlt
      have c0' := c0
      have c0 := below_some hbel c0 hb
      have i1 : (k : Int) < (L.length : Int) := by omega
      have i2 : (0 : Int) ≤ (k : Int) := by omega
      obtain ⟨st1, st2⟩ := HST.out _ (List.getElem_mem hlt)
      have hgr := group_any (HK.out _ hbel).2.2.1 L[k].name
      rw [st1] at hgr
      have HG := Lib.hid hgr
      have HS2 := Lib.hid st2
      have HC0 := Lib.hid (And.intro hb c0')
      clear hgr st1 st2 hbel c0' hb
      go_upto_region 32 with (first | (go_at_call 16; refine HG.out.mono ?_; rintro _ w2 ⟨fa, fc, ga, gc, rfl, hm2, hp2, hb2⟩))
      generalize hF : grp N L[k].name = F at *
      obtain ⟨wf, hwf⟩ : ∃ wf, wf = w2.alloc (.cells #[.string (bs F.name), .int .i64 F.gen, .int .i64 F.parts, .slice fa F.members.length fc, .slice ga F.points.length gc] 44) := ⟨_, rfl⟩
      obtain ⟨fb, hfb⟩ : ∃ fb, fb = w2.heap.size := ⟨_, rfl⟩
      have hGF : GrpAt wf fb F fa fc ga gc := by rw [hwf, hfb]; exact GrpAt.new hm2 hp2
      have hbf : Below wr.heap.size wr wf := by rw [hwf]; exact hb2.alloc hb2.size _
      rw [← hwf, ← hfb]
      clear hwf hfb hm2 hp2 hb2 c0
      have hbW := HB.out.trans (hbf.mono hszr)
      obtain ⟨hqf, hLf, -, hqlt⟩ := HK.out _ hbW
      by_cases e : L[k].name = q.group
      · have hget : ∀ W', Below wf.heap.size wf W' → W'.cell? ⟨b, off + k * 5, none⟩ = some (.string (bs L[k].name)) ∧ W'.cell? ⟨qb, 8, none⟩ = some (.string (bs q.group)) := by
          intro W' hb'
          have h2 := hbW.trans (hb'.mono hbW.size)
          exact ⟨below_some h2 HC0.out.2 HC0.out.1, (rq_limbs (HK.out _ h2).1).2.2.2.2.2.2.2.2.1⟩
        have HGT := Lib.hid hget
        have hbq := beq_dec L[k].name q.group
        rw [decide_eq_true e] at hbq
        have heq : (bs L[k].name).toList = (bs q.group).toList := by rw [e]
        have HBW := Lib.hid hbW
        clear hget hqf hLf e hGF hF hbW hbf
        generalize L[k].name = nm at *
        refine wp_region_belowG wf.heap.size (by kernel_rfl) (by kernel_rfl) ?_
        iterate 23 (first
          | go_big_quiet_skip
          | (go_big_quiet_want; rename_i K hK
             unfold Oper.quiet
             apply Exists.intro
             refine ⟨fun w' hw' => ?_, hK _ ?_⟩
             · obtain ⟨g1, g2⟩ := HGT.out w' hw'
               unfold Oper.quietAt
               go_simp
               first
                 | with_reducible rfl
                 | with_reducible rfl
             clear hK K
             simp only [Act.put, List.setIfInBounds_toArray, List.set_cons_zero, List.set_cons_succ]))
        refine wpQuiet_nil ?_
        intro wz hwz
        go_wp2
        go_roundg (L.length - (k + 1))
        case measure => omega
        case rel => exact ⟨k + 1, by omega, rfl, by go_num, HBW.out.trans (hwz.mono HBW.out.size)⟩
      · have hFy : F = L[k] := HS2.out e
        have HBW := Lib.hid hbW
        clear hF hbf hbW
        refine turns_r32 ?_ hLf rfl hlt hL4 hqf hqlt hGF hFy e (fun a' w' h => ?_)
        · kernel_rfl
        obtain ⟨t200, t201, t202, t203, t204, t205, t206, t207, t208, t209, t210, t211, t212, t213, t214, t215, t216, t217, t218, t219, t220, t221, hb9, rfl⟩ := h
        have HB9 := Lib.hid (HBW.out.trans (hb9.mono HBW.out.size))
        clear hqf hLf hGF hFy hb9 e
        go_wp2
        go_roundg (L.length - (k + 1))
        case measure => omega
        case rel => exact ⟨k + 1, by omega, rfl, by go_num, HB9.out⟩
    · have i1 : ¬ (k : Int) < (L.length : Int) := by omega
      clear hbel
      go_wp2
      refine HJ.out _ _ ?_
      repeat apply Exists.intro
      exact ⟨HB.out, rfl⟩
end Go.Proofs.YtdchjepahgecgaaGreatDoor
