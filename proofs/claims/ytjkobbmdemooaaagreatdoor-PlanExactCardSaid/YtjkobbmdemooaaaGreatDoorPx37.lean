/- The reference's Apply of layer 12: a node is to be brought up; one is. -/
import Derived.Test.YtjkobbmdemooaaaGreatDoorPx29
import Derived.Test.YtjkobbmdemooaaaGreatDoorPx27
import Derived.Test.YtjkobbmdemooaaaGreatDoorPx36
namespace Go.Proofs.YtjkobbmdemooaaaGreatDoor
open Go.RowKit

set_option maxRecDepth 100000 in
set_option maxHeartbeats 8000000 in
theorem ra_k5 {c : Code} (hc : Tryz.f10.body.bind (subC 272) = some c) {w W : World} {N N1 N2 N3 B X tb : Nat} {p : Pl} {pa la : Option Addr} {pc lc : Nat} {x : Event} (hF : Fx w W N N1 N2 N3 B p pa la pc lc x)
    {pa2 la2 : Option Addr} {pc2 lc2 : Nat} {m2 : List (Value × Pt)} (hT : Tn W B X p [] pa2 pc2 la2 lc2 m2 (.slice (some ⟨tb, 0, none⟩) 0 0)) (hcan : canB p x = true) (hk : x.kind = 5) {q0 : Pl} {T : List Int} {e0 : Int} (hC : changeP p x = (q0, T, e0))
    {K : Act → World → Prop} {Po : Ending → World → Prop} {t0 t1 t5 t6 t10 t11 t12 t13 t14 t15 t16 t17 t18 t19 t20 t21 t22 t23 t24 t25 t26 t27 t28 t29 t30 t31 t32 t33 t34 t35 t36 t37 t38 t39 t40 t41 t42 t43 t44 t45 t46 t47 t48 t49 t50 t51 t52 t53 t54 t55 t56 t57 t58 t59 t60 t61 t62 t63 t64 t65 t66 t67 t68 t69 t70 t71 t72 t73 t74 t75 t76 t77 t78 t79 t80 t81 t82 t83 t84 t85 t86 t87 t88 t89 t90 t91 t92 t93 t94 t95 t96 t97 t98 t99 t100 t101 t102 t103 t104 t105 t106 t107 t108 t109 t110 t111 t112 t113 t114 t115 t116 t117 t118 t119 t120 t121 t122 t123 t124 t125 t126 t127 t128 t129 t130 t131 t132 t133 t134 t135 t136 t137 t138 t139 t140 t141 t142 t143 t144 t145 t146 t147 t148 t149 t150 t151 t152 t153 t154 t155 t156 t157 t158 t159 t160 t161 t162 t163 t164 t165 t166 t167 t168 t169 t170 t171 t172 t173 t174 t175 t176 t177 t178 t179 t180 t181 t182 t183 t184 t185 t186 t187 t188 t189 t190 t191 t192 t193 t194 t195 t196 t197 t198 t199 t200 t201 t202 t203 t204 t205 t206 t207 t208 t209 t210 t211 t212 t213 t214 t215 t216 t217 t218 t219 t220 t221 t222 t223 t224 t225 t226 t227 t228 t229 t230 t231 t232 t233 t234 t235 t236 t237 t238 t239 t240 t241 t242 t243 t244 t245 t246 t247 t248 t249 t250 t251 t252 t253 t254 t255 t256 t257 t258 t259 t260 t261 t262 t263 t264 t265 t266 t267 t268 t269 t270 t271 t272 t273 t274 t275 t276 t277 t278 t279 t280 t281 t282 t283 t284 t285 t286 t287 t288 t289 t290 t291 t292 t293 t294 t295 t296 t297 t298 t299 t300 t301 t302 t303 t304 t305 t306 t307 t308 t309 t310 t311 t312 t313 t314 t315 t316 t317 t318 t319 t320 t321 t322 t323 t324 t325 t326 t327 t328 t329 t330 t331 t332 t333 : Value}
    (hN : ∀ a' w', (∃ (u5 u6 u274 u275 u276 u277 u278 u279 u280 u281 u282 u283 u284 u285 u286 u287 u288 u289 u290 u291 u292 u293 u294 u295 u296 u297 u298 u299 u300 u301 u302 : Value), ∃ (pa3 la3 ta : Option Addr) (pc3 lc3 tc : Nat) (m3 : List (Value × Pt)), (e0 = 0 ∧ Tn w' B X q0 T pa3 pc3 la3 lc3 m3 (.slice ta T.length tc) ∧ Fx w w' N N1 N2 N3 B p pa la pc lc x) ∧ a' = ⟨#[t0, t1, .pointer (some ⟨N, 0, none⟩), .pointer (some ⟨N1, 0, none⟩), .pointer (some ⟨N2, 0, none⟩), u5, u6, .pointer (some ⟨N3, 0, none⟩), .pointer (some ⟨X, 0, none⟩), .slice ta T.length tc, t10, t11, t12, t13, t14, t15, t16, t17, t18, t19, t20, t21, t22, t23, t24, t25, t26, t27, t28, t29, t30, t31, t32, t33, t34, t35, t36, t37, t38, t39, t40, t41, t42, t43, t44, t45, t46, t47, t48, t49, t50, t51, t52, t53, t54, t55, t56, t57, t58, t59, t60, t61, t62, t63, t64, t65, t66, t67, t68, t69, t70, t71, t72, t73, t74, t75, t76, t77, t78, t79, t80, t81, t82, t83, t84, t85, t86, t87, t88, t89, t90, t91, t92, t93, t94, t95, t96, t97, t98, t99, t100, t101, t102, t103, t104, t105, t106, t107, t108, t109, t110, t111, t112, t113, t114, t115, t116, t117, t118, t119, t120, t121, t122, t123, t124, t125, t126, t127, t128, t129, t130, t131, t132, t133, t134, t135, t136, t137, t138, t139, t140, t141, t142, t143, t144, t145, t146, t147, t148, t149, t150, t151, t152, t153, t154, t155, t156, t157, t158, t159, t160, t161, t162, t163, t164, t165, t166, t167, t168, t169, t170, t171, t172, t173, t174, t175, t176, t177, t178, t179, t180, t181, t182, t183, t184, t185, t186, t187, t188, t189, t190, t191, t192, t193, t194, t195, t196, t197, t198, t199, t200, t201, t202, t203, t204, t205, t206, t207, t208, t209, t210, t211, t212, t213, t214, t215, t216, t217, t218, t219, t220, t221, t222, t223, t224, t225, t226, t227, t228, t229, t230, t231, t232, t233, t234, t235, t236, t237, t238, t239, t240, t241, t242, t243, t244, t245, t246, t247, t248, t249, t250, t251, t252, t253, t254, t255, t256, t257, t258, t259, t260, t261, t262, t263, t264, t265, t266, t267, t268, t269, t270, t271, t272, t273, u274, u275, u276, u277, u278, u279, u280, u281, u282, u283, u284, u285, u286, u287, u288, u289, u290, u291, u292, u293, u294, u295, u296, u297, u298, u299, u300, u301, u302, t303, t304, t305, t306, t307, t308, t309, t310, t311, t312, t313, t314, t315, t316, t317, t318, t319, t320, t321, t322, t323, t324, t325, t326, t327, t328, t329, t330, t331, t332, t333], []⟩) → K a' w')
    (hR : ∀ a' w', (∃ (u9 u274 u275 u276 u277 u278 u279 u280 u281 u282 u283 u284 u285 u286 u287 u288 u289 u290 u291 u292 u293 u294 u295 u296 u297 u298 u299 u300 u301 u302 : Value), (e0 ≠ 0 ∧ Zd w w' N2) ∧ a' = ⟨#[t0, t1, .pointer (some ⟨N, 0, none⟩), .pointer (some ⟨N1, 0, none⟩), .pointer (some ⟨N2, 0, none⟩), .slice none 0 0, .int .i64 e0, .pointer (some ⟨N3, 0, none⟩), .pointer (some ⟨X, 0, none⟩), u9, t10, t11, t12, t13, t14, t15, t16, t17, t18, t19, t20, t21, t22, t23, t24, t25, t26, t27, t28, t29, t30, t31, t32, t33, t34, t35, t36, t37, t38, t39, t40, t41, t42, t43, t44, t45, t46, t47, t48, t49, t50, t51, t52, t53, t54, t55, t56, t57, t58, t59, t60, t61, t62, t63, t64, t65, t66, t67, t68, t69, t70, t71, t72, t73, t74, t75, t76, t77, t78, t79, t80, t81, t82, t83, t84, t85, t86, t87, t88, t89, t90, t91, t92, t93, t94, t95, t96, t97, t98, t99, t100, t101, t102, t103, t104, t105, t106, t107, t108, t109, t110, t111, t112, t113, t114, t115, t116, t117, t118, t119, t120, t121, t122, t123, t124, t125, t126, t127, t128, t129, t130, t131, t132, t133, t134, t135, t136, t137, t138, t139, t140, t141, t142, t143, t144, t145, t146, t147, t148, t149, t150, t151, t152, t153, t154, t155, t156, t157, t158, t159, t160, t161, t162, t163, t164, t165, t166, t167, t168, t169, t170, t171, t172, t173, t174, t175, t176, t177, t178, t179, t180, t181, t182, t183, t184, t185, t186, t187, t188, t189, t190, t191, t192, t193, t194, t195, t196, t197, t198, t199, t200, t201, t202, t203, t204, t205, t206, t207, t208, t209, t210, t211, t212, t213, t214, t215, t216, t217, t218, t219, t220, t221, t222, t223, t224, t225, t226, t227, t228, t229, t230, t231, t232, t233, t234, t235, t236, t237, t238, t239, t240, t241, t242, t243, t244, t245, t246, t247, t248, t249, t250, t251, t252, t253, t254, t255, t256, t257, t258, t259, t260, t261, t262, t263, t264, t265, t266, t267, t268, t269, t270, t271, t272, t273, u274, u275, u276, u277, u278, u279, u280, u281, u282, u283, u284, u285, u286, u287, u288, u289, u290, u291, u292, u293, u294, u295, u296, u297, u298, u299, u300, u301, u302, t303, t304, t305, t306, t307, t308, t309, t310, t311, t312, t313, t314, t315, t316, t317, t318, t319, t320, t321, t322, t323, t324, t325, t326, t327, t328, t329, t330, t331, t332, t333], []⟩) → bodyPost Tryz.prog Tryz.f10 Po .ret a' w') : Code.wp Tryz.prog c (Exit.inBlock 0 (Exit.then K (bodyPost Tryz.prog Tryz.f10 Po))) ⟨#[t0, t1, .pointer (some ⟨N, 0, none⟩), .pointer (some ⟨N1, 0, none⟩), .pointer (some ⟨N2, 0, none⟩), t5, t6, .pointer (some ⟨N3, 0, none⟩), .pointer (some ⟨X, 0, none⟩), .slice (some ⟨tb, 0, none⟩) 0 0, t10, t11, t12, t13, t14, t15, t16, t17, t18, t19, t20, t21, t22, t23, t24, t25, t26, t27, t28, t29, t30, t31, t32, t33, t34, t35, t36, t37, t38, t39, t40, t41, t42, t43, t44, t45, t46, t47, t48, t49, t50, t51, t52, t53, t54, t55, t56, t57, t58, t59, t60, t61, t62, t63, t64, t65, t66, t67, t68, t69, t70, t71, t72, t73, t74, t75, t76, t77, t78, t79, t80, t81, t82, t83, t84, t85, t86, t87, t88, t89, t90, t91, t92, t93, t94, t95, t96, t97, t98, t99, t100, t101, t102, t103, t104, t105, t106, t107, t108, t109, t110, t111, t112, t113, t114, t115, t116, t117, t118, t119, t120, t121, t122, t123, t124, t125, t126, t127, t128, t129, t130, t131, t132, t133, t134, t135, t136, t137, t138, t139, t140, t141, t142, t143, t144, t145, t146, t147, t148, t149, t150, t151, t152, t153, t154, t155, t156, t157, t158, t159, t160, t161, t162, t163, t164, t165, t166, t167, t168, t169, t170, t171, t172, t173, t174, t175, t176, t177, t178, t179, t180, t181, t182, t183, t184, t185, t186, t187, t188, t189, t190, t191, t192, t193, t194, t195, t196, t197, t198, t199, t200, t201, t202, t203, t204, t205, t206, t207, t208, t209, t210, t211, t212, t213, t214, t215, t216, t217, t218, t219, t220, t221, t222, t223, t224, t225, t226, t227, t228, t229, t230, t231, t232, t233, t234, t235, t236, t237, t238, t239, t240, t241, t242, t243, t244, t245, t246, t247, t248, t249, t250, t251, t252, t253, t254, t255, t256, t257, t258, t259, t260, t261, t262, t263, t264, t265, t266, t267, t268, t269, t270, t271, t272, t273, t274, t275, t276, t277, t278, t279, t280, t281, t282, t283, t284, t285, t286, t287, t288, t289, t290, t291, t292, t293, t294, t295, t296, t297, t298, t299, t300, t301, t302, t303, t304, t305, t306, t307, t308, t309, t310, t311, t312, t313, t314, t315, t316, t317, t318, t319, t320, t321, t322, t323, t324, t325, t326, t327, t328, t329, t330, t331, t332, t333], []⟩ W := by
  obtain rfl := Option.some.inj ((rfl : Tryz.f10.body.bind (subC 272) = some _).symm.trans hc)
  have HN := Lib.hid hN
  have HR := Lib.hid hR
  clear hc hN hR
  dsimp only
  obtain ⟨xk, xn, xp, xc⟩ := x
  simp only at hk
  obtain ⟨hg, he, -, hpt⟩ := canB_iff.1 hcan
  simp only at hpt
  obtain ⟨j, hj0, hj, hat⟩ := atP_eq (eventB_part he) hpt
  simp only at hj0
  subst hj0
  have hsm := small_of_good hg
  obtain ⟨g, rfl⟩ := hT.own.ptr (by omega)
  obtain ⟨i1, ki, kz0, kz1, kz2⟩ := info_parts info_Int
  obtain ⟨lf, hlf⟩ : ∃ lf, lifeP p.lives xn = lf := ⟨_, rfl⟩
  obtain ⟨bc, hbc⟩ : ∃ bc, (wantsP p xn).contains (j : Int) = bc := ⟨_, rfl⟩
  have hCv : changeP p ⟨xk, xn, (j : Int), xc⟩ = if lf = 0 ∨ bc = false then (p, [], 21) else (⟨p.nodes, p.copies, p.parts.set j ⟨p.parts[j].epoch, p.parts[j].chain, xn⟩, p.lives⟩, [(j : Int)], 0) := by
    unfold changeP
    simp only
    rw [if_neg (by omega), if_neg (by omega), if_neg (by omega), if_pos hk, hlf, hbc, atP_lt hj]
    simp
  rw [hC] at hCv
  have hlc : ∀ W', Below W.heap.size W W' → Calls Tryz.prog 18 #[planV p pa pc la lc, .int .i64 xn] W' fun e w' => e = .returned (.int .i64 lf) ∧ Below W.heap.size W w' := by
    intro W' hb
    refine (R12Life_any (hF.below hb).rd xn).mono ?_
    rintro e w' ⟨rfl, h⟩
    exact ⟨by rw [hlf], hb.trans (h.mono hb.size)⟩
  have hwc : ∀ W', Below W.heap.size W W' → Calls Tryz.prog 20 #[planV p pa pc la lc, .int .i64 xn] W' fun e w' => ∃ ta tl tc, e = .returned (.slice ta tl tc) ∧ IntsRd w' (.slice ta tl tc) (wantsP p xn) ∧ Below W.heap.size W w' := by
    intro W' hb
    refine (R12Wants_any (hF.below hb).rd hsm.1.parts xn).mono ?_
    rintro e w' ⟨tv, rfl, hrd, h⟩
    obtain ⟨ta, tc, rfl, -⟩ := Rd.shape hrd
    exact ⟨_, _, _, rfl, hrd, hb.trans (h.mono hb.size)⟩
  have HLC := Lib.hid hlc
  have HWC := Lib.hid hwc
  have HF := Lib.hid (fun W' (hb : Below W.heap.size W W') => hF.below hb)
  have HT := Lib.hid hT
  have HCV := Lib.hid hCv
  have HBC := Lib.hid hbc
  have hl4 : (p.parts.length : Int) ≤ 1000 := by have := hsm.1.parts; omega
  have hkeep := fun W' (hb : Below W.heap.size W W') => (hF.below hb).cells
  have HK := Lib.hid hkeep
  obtain ⟨⟨d0, d1, d2, d3⟩, ⟨y0, y1, y2, y3⟩⟩ := hF.cells
  obtain ⟨l1, l2, l3, l4, l5, l6⟩ := hF.lt
  clear hlc hwc hF hT hCv hbc hC hcan hg he hlf hat hsm hkeep
  have i2 : (0 : Int) ≤ (j : Int) := by omega
  have i3 : (j : Int) < (p.parts.length : Int) := by omega
  go_upto_region 57 with fail
  go_cut [288] from 274 to 302 (fun v wx => v = .bool (decide (lf = 0) || !bc) ∧ Below W.heap.size W wx)
  case first =>
    by_cases h0 : lf = 0
    · subst h0
      refine wp_region_belowP W.heap.size (by kernel_rfl) (by kernel_rfl) ?_
      iterate 15 (first
        | go_big_quiet_skip
        | (go_big_quiet_want; rename_i K hK
           unfold Oper.quiet
           apply Exists.intro
           refine ⟨fun w' hw' => ?_, hK _ ?_⟩
           · obtain ⟨⟨d0, d1, d2, d3⟩, ⟨y0, y1, y2, y3⟩⟩ := HK.out w' hw'
             unfold Oper.quietAt
             go_simp
             first
               | with_reducible rfl
               | with_reducible exact HLC.out w' hw'
           clear hK K
           simp only [Act.put, List.setIfInBounds_toArray, List.set_cons_zero, List.set_cons_succ]))
      refine wpQuiet_nil ?_
      intro w2 hw2
      go_wp2
      go_meet
      exact ⟨rfl, hw2⟩
    · have hz2 : decide (lf = 0) = false := by simpa using h0
      have hz1 : (lf == 0) = false := by simpa using h0
      clear HN HR HF HT HCV hj l1 l2 l3 l4 l5 l6 ki kz0 kz1 kz2 hl4 i2 i3
      go_region_law
        (first
          | (go_simp; go_at_call 18; refine (HLC.out _ (Below.refl _ _).drew).mono ?_; rintro e w5 ⟨rfl, hb5⟩; obtain ⟨⟨d50, d51, d52, d53⟩, ⟨y50, y51, y52, y53⟩⟩ := HK.out w5 hb5)
          | (go_simp; go_at_call 20; refine (HWC.out _ hb5).mono ?_; rintro e w6 ⟨ta, tl, tc, rfl, hrd6, hb6⟩; obtain ⟨⟨d60, d61, d62, d63⟩, ⟨y60, y61, y62, y63⟩⟩ := HK.out w6 hb6)
          | (go_simp; go_at_call 43; refine (has_any hrd6 _).mono ?_; rintro e w7 ⟨rfl, rfl⟩; rw [HBC.out]; clear hb5 d50 d51 d52 d53 y50 y51 y52 y53 d0 d1 d2 d3 y0 y1 y2 y3 hrd6))
      all_goals
        clear d60 d61 d62 d63 y60 y61 y62 y63
        go_wp2_with fail
        go_meet
        exact ⟨by simp [hz2], hb6⟩
  case rest =>
  obtain ⟨rfl, hbx⟩ := hcut
  have hF := HF.out wc hbx
  have hTx := HT.out.below hbx
  by_cases hbb : (decide (lf = 0) || !bc) = true
  · have he : e0 = 21 := by
      have h := HCV.out
      rw [if_pos (by simpa using hbb)] at h
      simp only [Prod.mk.injEq] at h
      exact h.2.2
    subst he
    rw [hbb]
    obtain ⟨⟨z0, z1, z2, z3⟩, ⟨r0, r1, r2, r3⟩, ⟨f0, f1, f2, f3⟩⟩ := hF.zeros
    have HZ := Lib.hid hF.zd
    clear hF hTx hbx d0 d1 d2 d3 y0 y1 y2 y3
    go_wp2
    refine HR.out _ _ ?_
    repeat apply Exists.intro
    exact ⟨⟨by decide, HZ.out⟩, rfl⟩
  · have hbb : (decide (lf = 0) || !bc) = false := by simpa using hbb
    have hE : (q0, T, e0) = ((⟨p.nodes, p.copies, p.parts.set j ⟨p.parts[j].epoch, p.parts[j].chain, xn⟩, p.lives⟩ : Pl), [(j : Int)], (0 : Int)) := by
      have h := HCV.out
      rw [if_neg (by simpa using hbb)] at h
      exact h
    simp only [Prod.mk.injEq] at hE
    obtain ⟨rfl, rfl, rfl⟩ := hE
    rw [hbb]
    obtain ⟨hjm, ca, cc, em, -, -, e2, fg, -, hgp, hgl, hgN⟩ := hTx.own.place j hj
    have o2 := cells_of hTx.own.blk 2 _ rfl
    have fg2 := fg (j * 3 + 2)
    obtain ⟨-, ⟨-, x1, x2, -⟩⟩ := hF.cells
    obtain ⟨m3, hT3⟩ := hTx.setLearner j hj xn
    have hs := upd_set1 wc g (j * 3 + 2) (.int .i64 xn)
    have hF3 := hF.upd hs (fun k e => by omega)
    obtain ⟨wd, hwd⟩ : ∃ wd, wd = wc.setCell ⟨g, j * 3 + 2, none⟩ (.int .i64 xn) := ⟨_, rfl⟩
    rw [← hwd] at hT3 hF3
    have H3 := Lib.hid (And.intro hT3 hF3)
    obtain ⟨-, ⟨-, -, v2, -⟩⟩ := hF3.cells
    have hlow := hF3.lt.2.2.2.2.2
    clear hF hTx hbx em fg hT3 hs hF3 hbb d0 d1 d2 d3 y0 y1 y2 y3
    go_upto_region 60 with fail
    rw [← hwd]
    clear e2 o2 fg2 x1 x2 hwd
    go_wp2_with (first | (at_builtin; refine wpList_append_lies _ rfl _ _ 32 rfl B 3 i1 _ 1 8 und_Ints ki kz0 kz1 kz2 rfl (by decide) (.slice (some ⟨tb, 0, none⟩) 0 0) 0 [] rfl (H3.out.1.tur.alloc _) ⟨wd.heap.size, 0, none⟩ 1 1 [.int .i64 j] rfl rfl (World.news_of_block (cs := #[.int .i64 j]) (t := 3) (fr := (0, 0)) (heap_alloc_new wd _)) (by simp [Value.oneCell']) (by decide) ?_ ?_ ?_ _ rfl ?_; (unfold maxLen; omega); (omega); (simp only [World.size_alloc]; omega); intro g9 cap9 w9 hown9 hgrow9 hat9 hlt9; have H9 := Lib.hid (H3.out.1.push1 (i := (j : Int)) hown9 hgrow9 hat9); clear hown9 hgrow9 hat9 hlt9))
    refine HN.out _ _ ?_
    repeat apply Exists.intro
    exact ⟨⟨by trivial, H9.out.1, H3.out.2.upd H9.out.2 (fun k hk => (owns_lt H3.out.1.tur k hk.symm).1)⟩, rfl⟩
end Go.Proofs.YtjkobbmdemooaaaGreatDoor
