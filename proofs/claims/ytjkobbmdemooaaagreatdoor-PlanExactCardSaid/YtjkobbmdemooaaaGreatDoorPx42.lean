/- The reference's Apply of layer 12: a node is left out. -/
import Derived.Test.YtjkobbmdemooaaaGreatDoorPx29
import Derived.Test.YtjkobbmdemooaaaGreatDoorPx27
import Derived.Test.YtjkobbmdemooaaaGreatDoorPx36
import Derived.Test.YtjkobbmdemooaaaGreatDoorPx23
namespace Go.Proofs.YtjkobbmdemooaaaGreatDoor
open Go.RowKit

theorem withoutL_erase {l : List Int} {n : Int} (hn : l.Nodup) (h : n ∈ l) : l.eraseIdx (idx l n).toNat = withoutL l n := by
  obtain ⟨-, -, -, e⟩ := erase_out hn (idx_mem.2 h)
  rw [e, hn.erase_eq_filter]
  unfold withoutL
  congr 1
  funext m
  rw [Bool.eq_iff_iff]
  simp

theorem dead_a {y : Pt} {n : Int} (hn : y.chain.Nodup) (hl : y.learner ∉ y.chain) (hm : n ∈ y.chain) (h1 : 1 < y.chain.length) : deadX n y = ⟨y.epoch, withoutL y.chain n, y.learner⟩ ∧ deadB n y = true ∧ y.learner ≠ n := by
  have hne : y.learner ≠ n := fun e => hl (e ▸ hm)
  refine ⟨?_, ?_, hne⟩
  · unfold deadX
    rw [if_neg hne, if_pos ⟨idx_mem.2 hm, h1⟩, withoutL_erase hn hm]
  · simp [deadB, idx_mem.2 hm, h1]
theorem dead_b {y : Pt} {n : Int} (h : y.learner = n) : deadX n y = ⟨y.epoch, y.chain, 0⟩ ∧ deadB n y = true := by
  refine ⟨?_, ?_⟩
  · unfold deadX
    rw [if_pos h]
  · simp [deadB, h]
theorem dead_c {y : Pt} {n : Int} (h : ¬ (n ∈ y.chain ∧ 1 < y.chain.length)) (hl : y.learner ≠ n) : deadX n y = y ∧ deadB n y = false := by
  refine ⟨?_, ?_⟩
  · unfold deadX
    rw [if_neg hl, if_neg (fun h2 => h ⟨idx_mem.1 h2.1, h2.2⟩)]
  · have : ¬ (0 ≤ idx y.chain n ∧ 1 < y.chain.length) := fun h2 => h ⟨idx_mem.1 h2.1, h2.2⟩
    simp only [deadB, Bool.or_eq_false_iff, decide_eq_false_iff_not, Bool.and_eq_false_iff]
    exact ⟨hl, by omega⟩

theorem dead_no {ch : List Int} {n : Int} (h : ch.contains n = false) : Value.bool false = Value.bool (decide (n ∈ ch ∧ 1 < ch.length)) := by
  have h2 : ¬ n ∈ ch := by simpa using h
  rw [decide_eq_false (fun h3 => h2 h3.1)]
theorem dead_yes {ch : List Int} {n : Int} (h : ch.contains n = true) : Value.bool (decide ((1 : Int) < (ch.length : Int))) = Value.bool (decide (n ∈ ch ∧ 1 < ch.length)) := by
  have h2 : n ∈ ch := by simpa using h
  congr 1
  rw [decide_eq_decide]
  exact ⟨fun h3 => ⟨h2, by omega⟩, fun h3 => by omega⟩

/-- What is read of the parts' row after chains and other parts were written. -/
theorem Tn.seen {w wa : World} {F : Nat → Prop} {N pb g : Nat} {p : Pl} {t : List Int} {pc : Nat} {la : Option Addr} {lc : Nat} {m : List (Value × Pt)} {tv : Value} (h : Tn w N pb p t (some ⟨g, 0, none⟩) pc la lc m tv) (hu : Upd F w wa)
    (hF : ∀ k, F k → (∃ cur, w.heap[k]? = some (.cells cur 3 (0, 0))) ∨ (k ≠ g ∧ ∃ cur, w.heap[k]? = some (.cells cur 74 (0, 0)))) (j : Nat) (hj : j < p.parts.length) :
    (∃ s, wa.cell? ⟨g, j * 3, none⟩ = some s) ∧ (∃ s, wa.cell? ⟨g, j * 3 + 1, none⟩ = some s) ∧ (∃ s, wa.cell? ⟨g, j * 3 + 2, none⟩ = some s) ∧ (∀ o, wa.frozen? ⟨g, o, none⟩ = false) ∧ wa.cell? ⟨pb, 2, none⟩ = some (.slice (some ⟨g, 0, none⟩) p.parts.length pc) := by
  obtain ⟨cg, hcg⟩ := owns_block h.own.parts.own g rfl
  obtain ⟨_, _, _, -, p0, p1, p2, -, -, -, hgl, -⟩ := h.own.place j hj
  have hga := (hu.block g hgl (fun e => by
    rcases hF g e with ⟨c, hc⟩ | ⟨h2, -⟩
    · rw [hcg] at hc
      simp at hc
    · exact h2 rfl)).trans hcg
  have hXa := (hu.block pb h.own.lt (fun e => by
    rcases hF pb e with ⟨c, hc⟩ | ⟨-, c, hc⟩
    · rw [h.own.blk] at hc; simp at hc
    · rw [h.own.blk] at hc; simp at hc)).trans h.own.blk
  have hpc : ∀ o v, w.cell? ⟨g, o, none⟩ = some v → ∃ s, wa.cell? ⟨g, o, none⟩ = some s := by
    intro o v h
    rw [World.cell?_of_block (hga.trans hcg.symm)]
    exact ⟨v, h⟩
  exact ⟨hpc _ _ p0, hpc _ _ p1, hpc _ _ p2, fun o => frozen_of hga, cells_of hXa 2 _ rfl⟩

set_option maxRecDepth 100000 in
set_option maxHeartbeats 8000000 in
theorem ra_k2 {c : Code} (hc : Tryz.f10.body.bind (subC 147) = some c) {w W : World} {N N1 N2 N3 B X tb : Nat} {p : Pl} {pa la : Option Addr} {pc lc : Nat} {x : Event} (hF : Fx w W N N1 N2 N3 B p pa la pc lc x)
    {pa2 la2 : Option Addr} {pc2 lc2 : Nat} {m2 : List (Value × Pt)} (hT : Tn W B X p [] pa2 pc2 la2 lc2 m2 (.slice (some ⟨tb, 0, none⟩) 0 0)) (hcan : canB p x = true) (hk : x.kind = 2) {q0 : Pl} {T : List Int} {e0 : Int} (hC : changeP p x = (q0, T, e0))
    {K : Act → World → Prop} {Po : Ending → World → Prop} {t0 t1 t5 t6 t10 t11 t12 t13 t14 t15 t16 t17 t18 t19 t20 t21 t22 t23 t24 t25 t26 t27 t28 t29 t30 t31 t32 t33 t34 t35 t36 t37 t38 t39 t40 t41 t42 t43 t44 t45 t46 t47 t48 t49 t50 t51 t52 t53 t54 t55 t56 t57 t58 t59 t60 t61 t62 t63 t64 t65 t66 t67 t68 t69 t70 t71 t72 t73 t74 t75 t76 t77 t78 t79 t80 t81 t82 t83 t84 t85 t86 t87 t88 t89 t90 t91 t92 t93 t94 t95 t96 t97 t98 t99 t100 t101 t102 t103 t104 t105 t106 t107 t108 t109 t110 t111 t112 t113 t114 t115 t116 t117 t118 t119 t120 t121 t122 t123 t124 t125 t126 t127 t128 t129 t130 t131 t132 t133 t134 t135 t136 t137 t138 t139 t140 t141 t142 t143 t144 t145 t146 t147 t148 t149 t150 t151 t152 t153 t154 t155 t156 t157 t158 t159 t160 t161 t162 t163 t164 t165 t166 t167 t168 t169 t170 t171 t172 t173 t174 t175 t176 t177 t178 t179 t180 t181 t182 t183 t184 t185 t186 t187 t188 t189 t190 t191 t192 t193 t194 t195 t196 t197 t198 t199 t200 t201 t202 t203 t204 t205 t206 t207 t208 t209 t210 t211 t212 t213 t214 t215 t216 t217 t218 t219 t220 t221 t222 t223 t224 t225 t226 t227 t228 t229 t230 t231 t232 t233 t234 t235 t236 t237 t238 t239 t240 t241 t242 t243 t244 t245 t246 t247 t248 t249 t250 t251 t252 t253 t254 t255 t256 t257 t258 t259 t260 t261 t262 t263 t264 t265 t266 t267 t268 t269 t270 t271 t272 t273 t274 t275 t276 t277 t278 t279 t280 t281 t282 t283 t284 t285 t286 t287 t288 t289 t290 t291 t292 t293 t294 t295 t296 t297 t298 t299 t300 t301 t302 t303 t304 t305 t306 t307 t308 t309 t310 t311 t312 t313 t314 t315 t316 t317 t318 t319 t320 t321 t322 t323 t324 t325 t326 t327 t328 t329 t330 t331 t332 t333 : Value}
    (hN : ∀ a' w', (∃ (u5 u6 u14 u15 u149 u150 u151 u152 u153 u154 u155 u156 u157 u158 u159 u160 u161 u162 u163 u164 u165 u166 u167 u168 u169 u170 u171 u172 u173 u174 u175 u176 u177 u178 u179 u180 u181 u182 u183 u184 u185 u186 u187 u188 u189 u190 u191 u192 u193 u194 u195 u196 u197 u198 u199 u200 u201 u202 u203 u204 u205 : Value), ∃ (pa3 la3 ta : Option Addr) (pc3 lc3 tc : Nat) (m3 : List (Value × Pt)), (e0 = 0 ∧ Tn w' B X q0 T pa3 pc3 la3 lc3 m3 (.slice ta T.length tc) ∧ Fx w w' N N1 N2 N3 B p pa la pc lc x) ∧ a' = ⟨#[t0, t1, .pointer (some ⟨N, 0, none⟩), .pointer (some ⟨N1, 0, none⟩), .pointer (some ⟨N2, 0, none⟩), u5, u6, .pointer (some ⟨N3, 0, none⟩), .pointer (some ⟨X, 0, none⟩), .slice ta T.length tc, t10, t11, t12, t13, u14, u15, t16, t17, t18, t19, t20, t21, t22, t23, t24, t25, t26, t27, t28, t29, t30, t31, t32, t33, t34, t35, t36, t37, t38, t39, t40, t41, t42, t43, t44, t45, t46, t47, t48, t49, t50, t51, t52, t53, t54, t55, t56, t57, t58, t59, t60, t61, t62, t63, t64, t65, t66, t67, t68, t69, t70, t71, t72, t73, t74, t75, t76, t77, t78, t79, t80, t81, t82, t83, t84, t85, t86, t87, t88, t89, t90, t91, t92, t93, t94, t95, t96, t97, t98, t99, t100, t101, t102, t103, t104, t105, t106, t107, t108, t109, t110, t111, t112, t113, t114, t115, t116, t117, t118, t119, t120, t121, t122, t123, t124, t125, t126, t127, t128, t129, t130, t131, t132, t133, t134, t135, t136, t137, t138, t139, t140, t141, t142, t143, t144, t145, t146, t147, t148, u149, u150, u151, u152, u153, u154, u155, u156, u157, u158, u159, u160, u161, u162, u163, u164, u165, u166, u167, u168, u169, u170, u171, u172, u173, u174, u175, u176, u177, u178, u179, u180, u181, u182, u183, u184, u185, u186, u187, u188, u189, u190, u191, u192, u193, u194, u195, u196, u197, u198, u199, u200, u201, u202, u203, u204, u205, t206, t207, t208, t209, t210, t211, t212, t213, t214, t215, t216, t217, t218, t219, t220, t221, t222, t223, t224, t225, t226, t227, t228, t229, t230, t231, t232, t233, t234, t235, t236, t237, t238, t239, t240, t241, t242, t243, t244, t245, t246, t247, t248, t249, t250, t251, t252, t253, t254, t255, t256, t257, t258, t259, t260, t261, t262, t263, t264, t265, t266, t267, t268, t269, t270, t271, t272, t273, t274, t275, t276, t277, t278, t279, t280, t281, t282, t283, t284, t285, t286, t287, t288, t289, t290, t291, t292, t293, t294, t295, t296, t297, t298, t299, t300, t301, t302, t303, t304, t305, t306, t307, t308, t309, t310, t311, t312, t313, t314, t315, t316, t317, t318, t319, t320, t321, t322, t323, t324, t325, t326, t327, t328, t329, t330, t331, t332, t333], []⟩) → K a' w')
    (hR : ∀ a' w', (∃ (u9 u14 u15 u149 u150 u151 u152 u153 u154 u155 u156 u157 u158 u159 u160 u161 u162 u163 u164 u165 u166 u167 u168 u169 u170 u171 u172 u173 u174 u175 u176 u177 u178 u179 u180 u181 u182 u183 u184 u185 u186 u187 u188 u189 u190 u191 u192 u193 u194 u195 u196 u197 u198 u199 u200 u201 u202 u203 u204 u205 : Value), (e0 ≠ 0 ∧ Zd w w' N2) ∧ a' = ⟨#[t0, t1, .pointer (some ⟨N, 0, none⟩), .pointer (some ⟨N1, 0, none⟩), .pointer (some ⟨N2, 0, none⟩), .slice none 0 0, .int .i64 e0, .pointer (some ⟨N3, 0, none⟩), .pointer (some ⟨X, 0, none⟩), u9, t10, t11, t12, t13, u14, u15, t16, t17, t18, t19, t20, t21, t22, t23, t24, t25, t26, t27, t28, t29, t30, t31, t32, t33, t34, t35, t36, t37, t38, t39, t40, t41, t42, t43, t44, t45, t46, t47, t48, t49, t50, t51, t52, t53, t54, t55, t56, t57, t58, t59, t60, t61, t62, t63, t64, t65, t66, t67, t68, t69, t70, t71, t72, t73, t74, t75, t76, t77, t78, t79, t80, t81, t82, t83, t84, t85, t86, t87, t88, t89, t90, t91, t92, t93, t94, t95, t96, t97, t98, t99, t100, t101, t102, t103, t104, t105, t106, t107, t108, t109, t110, t111, t112, t113, t114, t115, t116, t117, t118, t119, t120, t121, t122, t123, t124, t125, t126, t127, t128, t129, t130, t131, t132, t133, t134, t135, t136, t137, t138, t139, t140, t141, t142, t143, t144, t145, t146, t147, t148, u149, u150, u151, u152, u153, u154, u155, u156, u157, u158, u159, u160, u161, u162, u163, u164, u165, u166, u167, u168, u169, u170, u171, u172, u173, u174, u175, u176, u177, u178, u179, u180, u181, u182, u183, u184, u185, u186, u187, u188, u189, u190, u191, u192, u193, u194, u195, u196, u197, u198, u199, u200, u201, u202, u203, u204, u205, t206, t207, t208, t209, t210, t211, t212, t213, t214, t215, t216, t217, t218, t219, t220, t221, t222, t223, t224, t225, t226, t227, t228, t229, t230, t231, t232, t233, t234, t235, t236, t237, t238, t239, t240, t241, t242, t243, t244, t245, t246, t247, t248, t249, t250, t251, t252, t253, t254, t255, t256, t257, t258, t259, t260, t261, t262, t263, t264, t265, t266, t267, t268, t269, t270, t271, t272, t273, t274, t275, t276, t277, t278, t279, t280, t281, t282, t283, t284, t285, t286, t287, t288, t289, t290, t291, t292, t293, t294, t295, t296, t297, t298, t299, t300, t301, t302, t303, t304, t305, t306, t307, t308, t309, t310, t311, t312, t313, t314, t315, t316, t317, t318, t319, t320, t321, t322, t323, t324, t325, t326, t327, t328, t329, t330, t331, t332, t333], []⟩) → bodyPost Tryz.prog Tryz.f10 Po .ret a' w') : Code.wp Tryz.prog c (Exit.inBlock 0 (Exit.then K (bodyPost Tryz.prog Tryz.f10 Po))) ⟨#[t0, t1, .pointer (some ⟨N, 0, none⟩), .pointer (some ⟨N1, 0, none⟩), .pointer (some ⟨N2, 0, none⟩), t5, t6, .pointer (some ⟨N3, 0, none⟩), .pointer (some ⟨X, 0, none⟩), .slice (some ⟨tb, 0, none⟩) 0 0, t10, t11, t12, t13, t14, t15, t16, t17, t18, t19, t20, t21, t22, t23, t24, t25, t26, t27, t28, t29, t30, t31, t32, t33, t34, t35, t36, t37, t38, t39, t40, t41, t42, t43, t44, t45, t46, t47, t48, t49, t50, t51, t52, t53, t54, t55, t56, t57, t58, t59, t60, t61, t62, t63, t64, t65, t66, t67, t68, t69, t70, t71, t72, t73, t74, t75, t76, t77, t78, t79, t80, t81, t82, t83, t84, t85, t86, t87, t88, t89, t90, t91, t92, t93, t94, t95, t96, t97, t98, t99, t100, t101, t102, t103, t104, t105, t106, t107, t108, t109, t110, t111, t112, t113, t114, t115, t116, t117, t118, t119, t120, t121, t122, t123, t124, t125, t126, t127, t128, t129, t130, t131, t132, t133, t134, t135, t136, t137, t138, t139, t140, t141, t142, t143, t144, t145, t146, t147, t148, t149, t150, t151, t152, t153, t154, t155, t156, t157, t158, t159, t160, t161, t162, t163, t164, t165, t166, t167, t168, t169, t170, t171, t172, t173, t174, t175, t176, t177, t178, t179, t180, t181, t182, t183, t184, t185, t186, t187, t188, t189, t190, t191, t192, t193, t194, t195, t196, t197, t198, t199, t200, t201, t202, t203, t204, t205, t206, t207, t208, t209, t210, t211, t212, t213, t214, t215, t216, t217, t218, t219, t220, t221, t222, t223, t224, t225, t226, t227, t228, t229, t230, t231, t232, t233, t234, t235, t236, t237, t238, t239, t240, t241, t242, t243, t244, t245, t246, t247, t248, t249, t250, t251, t252, t253, t254, t255, t256, t257, t258, t259, t260, t261, t262, t263, t264, t265, t266, t267, t268, t269, t270, t271, t272, t273, t274, t275, t276, t277, t278, t279, t280, t281, t282, t283, t284, t285, t286, t287, t288, t289, t290, t291, t292, t293, t294, t295, t296, t297, t298, t299, t300, t301, t302, t303, t304, t305, t306, t307, t308, t309, t310, t311, t312, t313, t314, t315, t316, t317, t318, t319, t320, t321, t322, t323, t324, t325, t326, t327, t328, t329, t330, t331, t332, t333], []⟩ W := by
  obtain rfl := Option.some.inj ((rfl : Tryz.f10.body.bind (subC 147) = some _).symm.trans hc)
  have HN := Lib.hid hN
  have HR := Lib.hid hR
  clear hc hN hR
  dsimp only
  obtain ⟨xk, xn, xp, xc⟩ := x
  simp only at hk
  obtain ⟨hg, he, -, hpt⟩ := canB_iff.1 hcan
  have hsm := small_of_good hg
  have hpos : 0 < p.parts.length := by have := (goodP_iff.1 hg).2.2.1; omega
  obtain ⟨g, rfl⟩ := hT.own.ptr hpos
  obtain ⟨i1, ki, kz0, kz1, kz2⟩ := info_parts info_Int
  have hCv : changeP p ⟨xk, xn, xp, xc⟩ = if placesB (deadB xn) p.parts = [] then (p, [], 21) else (⟨p.nodes, p.copies, p.parts.map (deadX xn), p.lives⟩, placesB (deadB xn) p.parts, 0) := by
    unfold changeP
    simp only
    rw [if_neg (by omega), if_pos hk]
  rw [hC] at hCv
  have hl4 : p.parts.length ≤ 4 := by have := (goodP_iff.1 hg).2.2.1; omega
  have HCV := Lib.hid hCv
  have HPL := Lib.hid (goodP_iff.1 hg).2.2.2.1
  have HSM := Lib.hid hsm.2.1
  have HF := Lib.hid hF
  have HT := Lib.hid hT
  obtain ⟨l1, l2, l3, l4, l5, -⟩ := hF.lt
  clear hC hCv hcan hg he hpt hsm hF hT
  go_wp2
  go_loopg [9, 14] p.parts.length (fun gk out i wr => ∃ (k : Nat) (ta : Option Addr) (tc : Nat) (m : List (Value × Pt)), k ≤ p.parts.length ∧ gk = p.parts.length - k ∧ i = .int .i64 k ∧ out = .slice ta (placesB (deadB xn) (p.parts.take k)).length tc ∧
    Tn wr B X ⟨p.nodes, p.copies, deadK xn p.parts k, p.lives⟩ (placesB (deadB xn) (p.parts.take k)) (some ⟨g, 0, none⟩) pc2 la2 lc2 m (.slice ta (placesB (deadB xn) (p.parts.take k)).length tc) ∧ Fx w wr N N1 N2 N3 B p pa la pc lc ⟨xk, xn, xp, xc⟩)
  case atStart =>
    have e1 : deadK xn p.parts 0 = p.parts := by simp [deadK]
    refine ⟨0, some ⟨tb, 0, none⟩, 0, m2, Nat.zero_le _, rfl, rfl, rfl, ?_, HF.out⟩
    rw [e1]
    exact HT.out
  case round =>
    clear HF HT
    obtain ⟨k, ta, tc, m, hkl, rfl, rfl, rfl, hT, hF⟩ := hrel
    obtain ⟨T0, hT0⟩ : ∃ T0, placesB (deadB xn) (p.parts.take k) = T0 := ⟨_, rfl⟩
    simp only [hT0] at hT ⊢
    have HPB := Lib.hid hT0
    have hT0l : T0.length ≤ 4 := by rw [← hT0]; exact Nat.le_trans (placesB_length _ _) (by simp; omega)
    have hl0 := deadK_length xn p.parts k
    have hc2 : wr.cell? ⟨X, 2, none⟩ = some (.slice (some ⟨g, 0, none⟩) p.parts.length pc2) := by
      have := cells_of hT.own.blk 2 _ rfl
      rw [hl0] at this
      exact this
    by_cases hlt : k < p.parts.length
    · have hkl2 : k < (deadK xn p.parts k).length := by omega
      obtain ⟨hkm, ca, cc, em, e0', e1, e2, fg, hcn, hgp, hgl, hgN⟩ := hT.own.place k hkl2
      have eP := deadK_get xn p.parts k hlt hkl2
      simp only [eP] at em e0' e1 e2 hcn
      have hplc := isPlaceB_iff.1 (HPL.out _ (List.getElem_mem hlt))
      have hch5 := HSM.out _ (List.getElem_mem hlt)
      have hset := deadK_set xn p.parts k hlt
      have hsame := deadK_same xn p.parts k hlt
      have hno : deadB xn p.parts[k] = false → placesB (deadB xn) (p.parts.take (k + 1)) = T0 := fun h => by rw [placesB_succ _ p.parts k hlt, h, hT0]; simp
      have hye : deadB xn p.parts[k] = true → placesB (deadB xn) (p.parts.take (k + 1)) = T0 ++ [(k : Int)] := fun h => by rw [placesB_succ _ p.parts k hlt, h, hT0]; simp
      obtain ⟨y, hy⟩ : ∃ y, p.parts[k] = y := ⟨_, rfl⟩
      rw [hy] at em e0' e1 e2 hcn hplc hch5 hset hsame hno hye eP
      obtain ⟨ep, ch, le⟩ := y
      simp only at em e0' e1 e2 hcn hplc hch5
      obtain ⟨-, hnod, -, -, -, hlec⟩ := hplc
      have hda := @dead_a ⟨ep, ch, le⟩ xn hnod hlec
      have hdb := @dead_b ⟨ep, ch, le⟩ xn
      have hdc := @dead_c ⟨ep, ch, le⟩ xn
      simp only at hda hdb hdc
      have i2 : (0 : Int) ≤ (k : Int) := by omega
      have i3 : (k : Int) < (p.parts.length : Int) := by omega
      have hchl : (ch.length : Int) ≤ 5 := by omega
      have hchn : ch.length ≤ 5 := by omega
      obtain ⟨⟨d0, d1, d2, d3⟩, ⟨y0, y1, y2, y3⟩⟩ := hF.cells
      obtain ⟨W1, hW1⟩ : ∃ W1, W1 = wr.alloc (.cells #[.int .i64 ep, .slice ca ch.length cc, .int .i64 le] 74) := ⟨_, rfl⟩
      have hb1 : Below wr.heap.size wr W1 := by rw [hW1]; exact below_alloc _ _
      have hY : W1.heap[wr.heap.size]? = some (.cells #[.int .i64 ep, .slice ca ch.length cc, .int .i64 le] 74 (0, 0)) := by rw [hW1]; exact heap_alloc_new _ _
      have hs1 : wr.heap.size < W1.heap.size := by rw [hW1]; simp
      have hF1 := hF.below hb1
      have hT1 := hT.below hb1
      have hcn1 := owns_upd hcn (Upd.of_below (F := fun _ => False) hb1) (fun _ _ h => h)
      have hrd1 := IntsRd.of_owns hcn1
      have hgY : g ≠ wr.heap.size := by omega
      obtain ⟨-, ⟨-, v1, v2, v3⟩⟩ := hF1.cells
      have z0 := cells_of hY 0 _ rfl
      have z1 := cells_of hY 1 _ rfl
      have z2 := cells_of hY 2 _ rfl
      have zf1 : W1.frozen? ⟨wr.heap.size, 1, none⟩ = false := frozen_of hY
      have zf2 : W1.frozen? ⟨wr.heap.size, 2, none⟩ = false := frozen_of hY
      have hlow1 := hF1.lt.2.2.2.2.2
      have HF1 := Lib.hid hF1
      have HT1 := Lib.hid hT1
      have HCN := Lib.hid hcn1
      have HRD := Lib.hid hrd1
      have HY := Lib.hid hY
      have HEM := Lib.hid em
      have HW1 := Lib.hid hW1
      have HKM := Lib.hid (And.intro hkm hl0)
      have HSET := Lib.hid hset
      have HSAME := Lib.hid hsame
      have HNO := Lib.hid hno
      have HYE := Lib.hid hye
      have HDA := Lib.hid hda
      have HDB := Lib.hid hdb
      have HDC := Lib.hid hdc
      clear hF hT hT0 hl0 hkl2 em hcn eP hset hsame hno hye hy hnod hlec hda hdb hdc hb1 hF1 hT1 hcn1 hrd1 hY hW1 fg d0 d1 d2 d3 hch5
      go_upto_region 33 with fail
      rw [← HW1.out]
      clear e0' e1 e2 hc2 y0 y1 y2 y3
      go_cut [171] from 149 to 201 (fun v wx => v = .bool (decide (xn ∈ ch ∧ 1 < ch.length)) ∧ wx = W1)
      case first =>
        obtain ⟨b1, hb1⟩ : ∃ b1, ch.contains xn = b1 := ⟨_, rfl⟩
        have HB1 := Lib.hid hb1
        clear hb1
        cases b1
        · go_wp2_with (first | (go_at_call 43; refine (has_any HRD.out xn).mono ?_; rintro _ _ ⟨rfl, rfl⟩; rw [HB1.out]))
          go_meet
          exact ⟨dead_no HB1.out, rfl⟩
        · go_wp2_with (first | (go_at_call 43; refine (has_any HRD.out xn).mono ?_; rintro _ _ ⟨rfl, rfl⟩; rw [HB1.out]))
          go_meet
          exact ⟨dead_yes HB1.out, rfl⟩
      case rest =>
      obtain ⟨rfl, hwc⟩ := hcut
      subst hwc
      have hbT : ∀ q, some q = (Value.slice ta T0.length tc).ownBlock → q ≠ wr.heap.size := by
        rintro q hq rfl
        obtain ⟨c', hc'⟩ := owns_block HT1.out.tur _ hq.symm
        rw [HY.out] at hc'
        simp at hc'
      have HBT := Lib.hid hbT
      clear hbT
      by_cases hA : xn ∈ ch ∧ 1 < ch.length
      · obtain ⟨hA1, hA2, hA3⟩ := HDA.out hA.1 hA.2
        have hYES := HYE.out hA2
        have HYES := Lib.hid hYES
        have hdd : decide (xn ∈ ch ∧ 1 < ch.length) = true := decide_eq_true hA
        rw [hdd]
        clear hYES hdd hA hA2
        have HA1 := Lib.hid hA1
        clear hA1
        have hkeep : ∀ W5, Below wc.heap.size wc W5 → W5.cell? ⟨wr.heap.size, 1, none⟩ = some (.slice ca ch.length cc) ∧ W5.frozen? ⟨wr.heap.size, 1, none⟩ = false := by
          intro W5 hu
          have h := ((Upd.of_below (F := fun _ => False) hu).block wr.heap.size (by omega) (fun e => e)).trans HY.out
          exact ⟨cells_of h 1 _ rfl, frozen_of h⟩
        have HK := Lib.hid hkeep
        clear hkeep
        go_upto_region 35 with (first | (go_at_call 44; refine (without_any HRD.out (by omega) xn).mono ?_; rintro _ w5 ⟨cv, rfl, hcv, hb5⟩; obtain ⟨ya5, yf5⟩ := HK.out _ hb5; obtain ⟨ca5, cc5, rfl, -⟩ := (Sl.of_owns hcv).shape; have H5 := Lib.hid (And.intro hcv hb5); clear hcv hb5))
        obtain ⟨hcv, hb5⟩ := H5.out
        obtain ⟨cl, hcl⟩ : ∃ cl, withoutL ch xn = cl := ⟨_, rfl⟩
        have HCL := Lib.hid hcl
        simp only [hcl] at hcv ⊢
        have hu5 := Upd.of_below (F := fun _ => False) hb5
        have hY5 := (hu5.block wr.heap.size (by omega) (fun e => e)).trans HY.out
        obtain ⟨wa, hwa⟩ : ∃ wa, wa = w5.setCell ⟨wr.heap.size, 1, none⟩ (.slice ca5 cl.length cc5) := ⟨_, rfl⟩
        have hsy := upd_set1 w5 wr.heap.size 1 (.slice ca5 cl.length cc5)
        have hYa : wa.heap[wr.heap.size]? = some (.cells #[.int .i64 ep, .slice ca5 cl.length cc5, .int .i64 le] 74 (0, 0)) := by rw [hwa]; exact setCell_same hY5
        rw [← hwa] at hsy
        have hua : Upd (fun q => q = wr.heap.size) wc wa := (hu5.mono (fun _ _ h => h.elim)).trans hsy
        have hFa := HF1.out.upd hua (fun q hq => by have := HF1.out.lt; omega)
        have hca5 : ∀ q, (Value.slice ca5 cl.length cc5).ownBlock = some q → wc.heap.size ≤ q := fun q hq => (owns_lt hcv q hq).1
        have howna : wa.ownsRow B 3 1 (.slice ca5 cl.length cc5) cl.length (intCells cl) := owns_mono (owns_upd hcv hsy (fun q hq e => by have := hca5 q hq; omega)) (by have := HF1.out.lt; omega)
        have hTa := HT1.out.store (w' := wa) k hkm hua (fun q hq => by subst hq; exact .inr ⟨fun e => hgY e.symm, _, HY.out⟩) (cv := .slice ca5 cl.length cc5) ⟨ep, cl, le⟩ (by simpa [intCells] using howna) (fun q hq => .inr (hca5 q hq))
        obtain ⟨⟨s0, b0⟩, ⟨s1, b1⟩, ⟨s2, b2⟩, fga, xa2⟩ := HT1.out.seen hua (fun q hq => by subst hq; exact .inr ⟨fun e => hgY e.symm, _, HY.out⟩) k (by simp only; rw [HKM.out.2]; omega)
        simp only [HKM.out.2] at xa2
        have fg0 := fga (k * 3)
        have fg1 := fga (k * 3 + 1)
        have fg2 := fga (k * 3 + 2)
        have hsg := ((upd_set1 wa g (k * 3) (.int .i64 ep)).trans (upd_set1 _ g (k * 3 + 1) (.slice ca5 cl.length cc5))).trans (upd_set1 _ g (k * 3 + 2) (.int .i64 le))
        have hFb := hFa.upd hsg (fun q e => by omega)
        have q0' := cells_of hYa 0 _ rfl
        have q1' := cells_of hYa 1 _ rfl
        have q2' := cells_of hYa 2 _ rfl
        obtain ⟨wb, hwb⟩ : ∃ wb, wb = ((wa.setCell ⟨g, k * 3, none⟩ (.int .i64 ep)).setCell ⟨g, k * 3 + 1, none⟩ (.slice ca5 cl.length cc5)).setCell ⟨g, k * 3 + 2, none⟩ (.int .i64 le) := ⟨_, rfl⟩
        dsimp only at hTa
        have hTb := hTa
        rw [← hwb] at hTb
        have hA4 : deadX xn ⟨ep, ch, le⟩ = ⟨ep, cl, le⟩ := by rw [HA1.out, HCL.out]
        rw [← hA4, HSET.out] at hTb
        clear hA4
        have hYb := (hsg.block wr.heap.size (by have := hua.size; omega) (fun e => hgY e.symm)).trans hYa
        rw [← hwb] at hFb hYb
        have hsb := hsg.size
        rw [← hwb] at hsb
        have hlow := hFb.lt.2.2.2.2.2
        have hkeep2 : ∀ W9, Upd (fun q => some q = (Value.slice ta T0.length tc).ownBlock) wb W9 → W9.cell? ⟨wr.heap.size, 2, none⟩ = some (.int .i64 le) ∧ W9.cell? ⟨N1, 1, none⟩ = some (.int .i64 xn) := by
          intro W9 hu
          have h := (hu.block wr.heap.size (by have := hua.size; omega) (fun e => HBT.out _ e rfl)).trans hYb
          refine ⟨cells_of h 2 _ rfl, ?_⟩
          obtain ⟨-, ⟨-, n1, -, -⟩⟩ := (hFb.upd hu (fun q hq => (owns_lt hTb.tur q hq.symm).1)).cells
          exact n1
        have HK2 := Lib.hid hkeep2
        have H3 := Lib.hid (And.intro hTb hFb)
        have HWA := Lib.hid hwa
        have HWB := Lib.hid hwb
        clear hcv hb5 hu5 hY5 hsy hYa hua hFa hca5 howna hTa hsg hFb hTb hwa hwb hkeep2 hYb fga v1 v2 v3 z0 z1 z2 zf1 zf2 ya5 yf5 HK H5 HY hcl HRD HCN HF1 HT1
        rw [← HWA.out]
        go_upto_region 36 with fail
        rw [← HWB.out]
        clear b0 b1 b2 fg0 fg1 fg2 xa2 q0' q1' q2'
        go_wp2_with (first | (at_builtin; refine wpList_append_lies _ rfl _ _ 32 rfl B 3 i1 _ 1 8 und_Ints ki kz0 kz1 kz2 rfl (by decide) (.slice ta T0.length tc) T0.length (intCells T0) rfl (H3.out.1.tur.alloc _) ⟨wb.heap.size, 0, none⟩ 1 1 [.int .i64 k] rfl rfl (World.news_of_block (cs := #[.int .i64 k]) (t := 3) (fr := (0, 0)) (heap_alloc_new wb _)) (by simp [Value.oneCell']) (by decide) ?_ ?_ ?_ _ rfl ?_; (unfold maxLen; omega); (omega); (simp only [World.size_alloc]; omega); intro g8 cap8 w8 hown8 hgrow8 hat8 hlt8; have H8 := Lib.hid (H3.out.1.push1 (i := (k : Int)) hown8 hgrow8 hat8); clear hown8 hgrow8 hat8 hlt8; obtain ⟨za8, zb8⟩ := HK2.out _ H8.out.2))
        go_roundg (p.parts.length - (k + 1))
        case measure => omega
        case rel =>
          refine ⟨k + 1, some ⟨g8, 0, none⟩, cap8, m.set k (.slice ca5 cl.length cc5, deadX xn ⟨ep, ch, le⟩), by omega, rfl, by go_num, ?_, ?_, H3.out.2.upd H8.out.2 (fun q hq => (owns_lt H3.out.1.tur q hq.symm).1)⟩
          · rw [HYES.out]; simp
          · rw [HYES.out]; exact H8.out.1
      · have hdd : decide (xn ∈ ch ∧ 1 < ch.length) = false := decide_eq_false hA
        rw [hdd]
        by_cases hB : le = xn
        · subst hB
          obtain ⟨hB1, hB2⟩ := HDB.out rfl
          have hYES := HYE.out hB2
          have HYES := Lib.hid hYES
          clear hYES hdd hA hB2
          have HB1 := Lib.hid hB1
          clear hB1
          obtain ⟨wa, hwa⟩ : ∃ wa, wa = wc.setCell ⟨wr.heap.size, 2, none⟩ (.int .i64 0) := ⟨_, rfl⟩
          have hsy := upd_set1 wc wr.heap.size 2 (.int .i64 0)
          have hYa : wa.heap[wr.heap.size]? = some (.cells #[.int .i64 ep, .slice ca ch.length cc, .int .i64 0] 74 (0, 0)) := by rw [hwa]; exact setCell_same HY.out
          rw [← hwa] at hsy
          have hFa := HF1.out.upd hsy (fun q hq => by have := HF1.out.lt; omega)
          have howna : wa.ownsRow B 3 1 (.slice ca ch.length cc) ch.length (intCells ch) := owns_upd HCN.out hsy (fun q hq e => by
            obtain ⟨c', hc'⟩ := owns_block HCN.out q hq
            rw [e, HY.out] at hc'
            simp at hc')
          have hTa := HT1.out.store (w' := wa) k hkm hsy (fun q hq => by subst hq; exact .inr ⟨fun e => hgY e.symm, _, HY.out⟩) (cv := .slice ca ch.length cc) ⟨ep, ch, 0⟩ (by simpa [intCells] using howna) (fun q hq => .inl (by rw [HEM.out]; exact hq))
          obtain ⟨⟨s0, b0⟩, ⟨s1, b1⟩, ⟨s2, b2⟩, fga, xa2⟩ := HT1.out.seen hsy (fun q hq => by subst hq; exact .inr ⟨fun e => hgY e.symm, _, HY.out⟩) k (by simp only; rw [HKM.out.2]; omega)
          simp only [HKM.out.2] at xa2
          have fg0 := fga (k * 3)
          have fg1 := fga (k * 3 + 1)
          have fg2 := fga (k * 3 + 2)
          have hsg := ((upd_set1 wa g (k * 3) (.int .i64 ep)).trans (upd_set1 _ g (k * 3 + 1) (.slice ca ch.length cc))).trans (upd_set1 _ g (k * 3 + 2) (.int .i64 0))
          have hFb := hFa.upd hsg (fun q e => by omega)
          have q0' := cells_of hYa 0 _ rfl
          have q1' := cells_of hYa 1 _ rfl
          have q2' := cells_of hYa 2 _ rfl
          obtain ⟨wb, hwb⟩ : ∃ wb, wb = ((wa.setCell ⟨g, k * 3, none⟩ (.int .i64 ep)).setCell ⟨g, k * 3 + 1, none⟩ (.slice ca ch.length cc)).setCell ⟨g, k * 3 + 2, none⟩ (.int .i64 0) := ⟨_, rfl⟩
          dsimp only at hTa
          have hTb := hTa
          rw [← hwb] at hTb
          rw [← HB1.out, HSET.out] at hTb
          rw [← hwb] at hFb
          have hlow := hFb.lt.2.2.2.2.2
          have H3 := Lib.hid (And.intro hTb hFb)
          have HWA := Lib.hid hwa
          have HWB := Lib.hid hwb
          clear hsy hYa hFa howna hTa hsg hFb hTb hwa hwb fga HY HRD HCN HF1 HT1
          go_upto_region 39 with fail
          rw [← HWA.out]
          clear v1 v2 v3 z0 z1 z2 zf1 zf2
          go_upto_region 40 with fail
          rw [← HWB.out]
          clear b0 b1 b2 fg0 fg1 fg2 xa2 q0' q1' q2'
          go_wp2_with (first | (at_builtin; refine wpList_append_lies _ rfl _ _ 32 rfl B 3 i1 _ 1 8 und_Ints ki kz0 kz1 kz2 rfl (by decide) (.slice ta T0.length tc) T0.length (intCells T0) rfl (H3.out.1.tur.alloc _) ⟨wb.heap.size, 0, none⟩ 1 1 [.int .i64 k] rfl rfl (World.news_of_block (cs := #[.int .i64 k]) (t := 3) (fr := (0, 0)) (heap_alloc_new wb _)) (by simp [Value.oneCell']) (by decide) ?_ ?_ ?_ _ rfl ?_; (unfold maxLen; omega); (omega); (simp only [World.size_alloc]; omega); intro g8 cap8 w8 hown8 hgrow8 hat8 hlt8; have H8 := Lib.hid (H3.out.1.push1 (i := (k : Int)) hown8 hgrow8 hat8); clear hown8 hgrow8 hat8 hlt8))
          go_roundg (p.parts.length - (k + 1))
          case measure => omega
          case rel =>
            refine ⟨k + 1, some ⟨g8, 0, none⟩, cap8, m.set k (.slice ca ch.length cc, deadX le ⟨ep, ch, le⟩), by omega, rfl, by go_num, ?_, ?_, H3.out.2.upd H8.out.2 (fun q hq => (owns_lt H3.out.1.tur q hq.symm).1)⟩
            · rw [HYES.out]; simp
            · rw [HYES.out]; exact H8.out.1
        · obtain ⟨hC1, hC2⟩ := HDC.out hA hB
          have hsm2 := HSAME.out hC1
          have hNO := HNO.out hC2
          have H3 := Lib.hid (And.intro HT1.out HF1.out)
          clear hC1 hC2 hA hdd HY HRD HCN HF1 HT1
          have HSM2 := Lib.hid hsm2
          have HNOO := Lib.hid hNO
          clear hsm2 hNO
          go_wp2
          go_roundg (p.parts.length - (k + 1))
          case measure => omega
          case rel =>
            refine ⟨k + 1, ta, tc, m, by omega, rfl, by go_num, ?_, ?_, H3.out.2⟩
            · rw [HNOO.out]
            · rw [HNOO.out, HSM2.out]; exact H3.out.1
    · clear hc2
      have hkk : k = p.parts.length := by omega
      subst hkk
      have hfull : deadK xn p.parts p.parts.length = p.parts.map (deadX xn) := by simp [deadK]
      rw [hfull] at hT
      have hT0f : placesB (deadB xn) p.parts = T0 := by have := HPB.out; rwa [List.take_length] at this
      have hcv2 := HCV.out
      rw [hT0f] at hcv2
      by_cases he : T0 = []
      · subst he
        rw [if_pos rfl] at hcv2
        simp only [Prod.mk.injEq] at hcv2
        obtain ⟨-, -, rfl⟩ := hcv2
        obtain ⟨⟨z0, z1, z2, z3⟩, ⟨r0, r1, r2, r3⟩, ⟨f0, f1, f2, f3⟩⟩ := hF.zeros
        have HZ := Lib.hid hF.zd
        have hc2 : wr.cell? ⟨X, 2, none⟩ = some (.slice (some ⟨g, 0, none⟩) p.parts.length pc2) := by
          have := cells_of hT.own.blk 2 _ rfl
          rw [List.length_map] at this
          exact this
        clear hF hT hT0f hl0 hfull
        go_wp2
        refine HR.out _ _ ?_
        repeat apply Exists.intro
        exact ⟨⟨by decide, HZ.out⟩, rfl⟩
      · rw [if_neg he] at hcv2
        simp only [Prod.mk.injEq] at hcv2
        obtain ⟨rfl, rfl, rfl⟩ := hcv2
        have hne : T.length ≠ 0 := fun h => he (List.length_eq_zero_iff.1 h)
        have hz1 : ¬ ((T.length : Int) = 0) := by omega
        have hc2 : wr.cell? ⟨X, 2, none⟩ = some (.slice (some ⟨g, 0, none⟩) p.parts.length pc2) := by
          have := cells_of hT.own.blk 2 _ rfl
          rw [List.length_map] at this
          exact this
        have H3 := Lib.hid (And.intro hT hF)
        clear hF hT hT0f hl0 hfull he hne
        go_wp2
        refine HN.out _ _ ?_
        repeat apply Exists.intro
        exact ⟨⟨by trivial, H3.out.1, H3.out.2⟩, rfl⟩
end Go.Proofs.YtjkobbmdemooaaaGreatDoor
