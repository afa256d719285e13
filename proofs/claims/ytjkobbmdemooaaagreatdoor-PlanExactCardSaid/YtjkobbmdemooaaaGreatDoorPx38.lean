/- The reference's Apply of layer 12: a node is brought up. -/
import Derived.Test.YtjkobbmdemooaaaGreatDoorPx29
import Derived.Test.YtjkobbmdemooaaaGreatDoorPx27
import Derived.Test.YtjkobbmdemooaaaGreatDoorPx36
namespace Go.Proofs.YtjkobbmdemooaaaGreatDoor
open Go.RowKit

set_option maxRecDepth 100000 in
set_option maxHeartbeats 8000000 in
theorem ra_k3 {c : Code} (hc : Tryz.f10.body.bind (subC 206) = some c) {w W : World} {N N1 N2 N3 B X tb : Nat} {p : Pl} {pa la : Option Addr} {pc lc : Nat} {x : Event} (hF : Fx w W N N1 N2 N3 B p pa la pc lc x)
    {pa2 la2 : Option Addr} {pc2 lc2 : Nat} {m2 : List (Value × Pt)} (hT : Tn W B X p [] pa2 pc2 la2 lc2 m2 (.slice (some ⟨tb, 0, none⟩) 0 0)) (hcan : canB p x = true) (hk : x.kind = 3) {q0 : Pl} {T : List Int} {e0 : Int} (hC : changeP p x = (q0, T, e0))
    {K : Act → World → Prop} {Po : Ending → World → Prop} {t0 t1 t5 t6 t10 t11 t12 t13 t14 t15 t16 t17 t18 t19 t20 t21 t22 t23 t24 t25 t26 t27 t28 t29 t30 t31 t32 t33 t34 t35 t36 t37 t38 t39 t40 t41 t42 t43 t44 t45 t46 t47 t48 t49 t50 t51 t52 t53 t54 t55 t56 t57 t58 t59 t60 t61 t62 t63 t64 t65 t66 t67 t68 t69 t70 t71 t72 t73 t74 t75 t76 t77 t78 t79 t80 t81 t82 t83 t84 t85 t86 t87 t88 t89 t90 t91 t92 t93 t94 t95 t96 t97 t98 t99 t100 t101 t102 t103 t104 t105 t106 t107 t108 t109 t110 t111 t112 t113 t114 t115 t116 t117 t118 t119 t120 t121 t122 t123 t124 t125 t126 t127 t128 t129 t130 t131 t132 t133 t134 t135 t136 t137 t138 t139 t140 t141 t142 t143 t144 t145 t146 t147 t148 t149 t150 t151 t152 t153 t154 t155 t156 t157 t158 t159 t160 t161 t162 t163 t164 t165 t166 t167 t168 t169 t170 t171 t172 t173 t174 t175 t176 t177 t178 t179 t180 t181 t182 t183 t184 t185 t186 t187 t188 t189 t190 t191 t192 t193 t194 t195 t196 t197 t198 t199 t200 t201 t202 t203 t204 t205 t206 t207 t208 t209 t210 t211 t212 t213 t214 t215 t216 t217 t218 t219 t220 t221 t222 t223 t224 t225 t226 t227 t228 t229 t230 t231 t232 t233 t234 t235 t236 t237 t238 t239 t240 t241 t242 t243 t244 t245 t246 t247 t248 t249 t250 t251 t252 t253 t254 t255 t256 t257 t258 t259 t260 t261 t262 t263 t264 t265 t266 t267 t268 t269 t270 t271 t272 t273 t274 t275 t276 t277 t278 t279 t280 t281 t282 t283 t284 t285 t286 t287 t288 t289 t290 t291 t292 t293 t294 t295 t296 t297 t298 t299 t300 t301 t302 t303 t304 t305 t306 t307 t308 t309 t310 t311 t312 t313 t314 t315 t316 t317 t318 t319 t320 t321 t322 t323 t324 t325 t326 t327 t328 t329 t330 t331 t332 t333 : Value}
    (hN : ∀ a' w', (∃ (u5 u6 u16 u208 u209 u210 u211 u212 u213 u214 u215 u216 u217 u218 u219 u220 u221 u222 u223 u224 u225 u226 u227 u228 u229 u230 u231 u232 u233 u234 u235 u236 u237 u238 u239 u240 u241 u242 u243 u244 u245 : Value), ∃ (pa3 la3 ta : Option Addr) (pc3 lc3 tc : Nat) (m3 : List (Value × Pt)), (e0 = 0 ∧ Tn w' B X q0 T pa3 pc3 la3 lc3 m3 (.slice ta T.length tc) ∧ Fx w w' N N1 N2 N3 B p pa la pc lc x) ∧ a' = ⟨#[t0, t1, .pointer (some ⟨N, 0, none⟩), .pointer (some ⟨N1, 0, none⟩), .pointer (some ⟨N2, 0, none⟩), u5, u6, .pointer (some ⟨N3, 0, none⟩), .pointer (some ⟨X, 0, none⟩), .slice ta T.length tc, t10, t11, t12, t13, t14, t15, u16, t17, t18, t19, t20, t21, t22, t23, t24, t25, t26, t27, t28, t29, t30, t31, t32, t33, t34, t35, t36, t37, t38, t39, t40, t41, t42, t43, t44, t45, t46, t47, t48, t49, t50, t51, t52, t53, t54, t55, t56, t57, t58, t59, t60, t61, t62, t63, t64, t65, t66, t67, t68, t69, t70, t71, t72, t73, t74, t75, t76, t77, t78, t79, t80, t81, t82, t83, t84, t85, t86, t87, t88, t89, t90, t91, t92, t93, t94, t95, t96, t97, t98, t99, t100, t101, t102, t103, t104, t105, t106, t107, t108, t109, t110, t111, t112, t113, t114, t115, t116, t117, t118, t119, t120, t121, t122, t123, t124, t125, t126, t127, t128, t129, t130, t131, t132, t133, t134, t135, t136, t137, t138, t139, t140, t141, t142, t143, t144, t145, t146, t147, t148, t149, t150, t151, t152, t153, t154, t155, t156, t157, t158, t159, t160, t161, t162, t163, t164, t165, t166, t167, t168, t169, t170, t171, t172, t173, t174, t175, t176, t177, t178, t179, t180, t181, t182, t183, t184, t185, t186, t187, t188, t189, t190, t191, t192, t193, t194, t195, t196, t197, t198, t199, t200, t201, t202, t203, t204, t205, t206, t207, u208, u209, u210, u211, u212, u213, u214, u215, u216, u217, u218, u219, u220, u221, u222, u223, u224, u225, u226, u227, u228, u229, u230, u231, u232, u233, u234, u235, u236, u237, u238, u239, u240, u241, u242, u243, u244, u245, t246, t247, t248, t249, t250, t251, t252, t253, t254, t255, t256, t257, t258, t259, t260, t261, t262, t263, t264, t265, t266, t267, t268, t269, t270, t271, t272, t273, t274, t275, t276, t277, t278, t279, t280, t281, t282, t283, t284, t285, t286, t287, t288, t289, t290, t291, t292, t293, t294, t295, t296, t297, t298, t299, t300, t301, t302, t303, t304, t305, t306, t307, t308, t309, t310, t311, t312, t313, t314, t315, t316, t317, t318, t319, t320, t321, t322, t323, t324, t325, t326, t327, t328, t329, t330, t331, t332, t333], []⟩) → K a' w')
    (hR : ∀ a' w', (∃ (u9 u16 u208 u209 u210 u211 u212 u213 u214 u215 u216 u217 u218 u219 u220 u221 u222 u223 u224 u225 u226 u227 u228 u229 u230 u231 u232 u233 u234 u235 u236 u237 u238 u239 u240 u241 u242 u243 u244 u245 : Value), (e0 ≠ 0 ∧ Zd w w' N2) ∧ a' = ⟨#[t0, t1, .pointer (some ⟨N, 0, none⟩), .pointer (some ⟨N1, 0, none⟩), .pointer (some ⟨N2, 0, none⟩), .slice none 0 0, .int .i64 e0, .pointer (some ⟨N3, 0, none⟩), .pointer (some ⟨X, 0, none⟩), u9, t10, t11, t12, t13, t14, t15, u16, t17, t18, t19, t20, t21, t22, t23, t24, t25, t26, t27, t28, t29, t30, t31, t32, t33, t34, t35, t36, t37, t38, t39, t40, t41, t42, t43, t44, t45, t46, t47, t48, t49, t50, t51, t52, t53, t54, t55, t56, t57, t58, t59, t60, t61, t62, t63, t64, t65, t66, t67, t68, t69, t70, t71, t72, t73, t74, t75, t76, t77, t78, t79, t80, t81, t82, t83, t84, t85, t86, t87, t88, t89, t90, t91, t92, t93, t94, t95, t96, t97, t98, t99, t100, t101, t102, t103, t104, t105, t106, t107, t108, t109, t110, t111, t112, t113, t114, t115, t116, t117, t118, t119, t120, t121, t122, t123, t124, t125, t126, t127, t128, t129, t130, t131, t132, t133, t134, t135, t136, t137, t138, t139, t140, t141, t142, t143, t144, t145, t146, t147, t148, t149, t150, t151, t152, t153, t154, t155, t156, t157, t158, t159, t160, t161, t162, t163, t164, t165, t166, t167, t168, t169, t170, t171, t172, t173, t174, t175, t176, t177, t178, t179, t180, t181, t182, t183, t184, t185, t186, t187, t188, t189, t190, t191, t192, t193, t194, t195, t196, t197, t198, t199, t200, t201, t202, t203, t204, t205, t206, t207, u208, u209, u210, u211, u212, u213, u214, u215, u216, u217, u218, u219, u220, u221, u222, u223, u224, u225, u226, u227, u228, u229, u230, u231, u232, u233, u234, u235, u236, u237, u238, u239, u240, u241, u242, u243, u244, u245, t246, t247, t248, t249, t250, t251, t252, t253, t254, t255, t256, t257, t258, t259, t260, t261, t262, t263, t264, t265, t266, t267, t268, t269, t270, t271, t272, t273, t274, t275, t276, t277, t278, t279, t280, t281, t282, t283, t284, t285, t286, t287, t288, t289, t290, t291, t292, t293, t294, t295, t296, t297, t298, t299, t300, t301, t302, t303, t304, t305, t306, t307, t308, t309, t310, t311, t312, t313, t314, t315, t316, t317, t318, t319, t320, t321, t322, t323, t324, t325, t326, t327, t328, t329, t330, t331, t332, t333], []⟩) → bodyPost Tryz.prog Tryz.f10 Po .ret a' w') : Code.wp Tryz.prog c (Exit.inBlock 0 (Exit.then K (bodyPost Tryz.prog Tryz.f10 Po))) ⟨#[t0, t1, .pointer (some ⟨N, 0, none⟩), .pointer (some ⟨N1, 0, none⟩), .pointer (some ⟨N2, 0, none⟩), t5, t6, .pointer (some ⟨N3, 0, none⟩), .pointer (some ⟨X, 0, none⟩), .slice (some ⟨tb, 0, none⟩) 0 0, t10, t11, t12, t13, t14, t15, t16, t17, t18, t19, t20, t21, t22, t23, t24, t25, t26, t27, t28, t29, t30, t31, t32, t33, t34, t35, t36, t37, t38, t39, t40, t41, t42, t43, t44, t45, t46, t47, t48, t49, t50, t51, t52, t53, t54, t55, t56, t57, t58, t59, t60, t61, t62, t63, t64, t65, t66, t67, t68, t69, t70, t71, t72, t73, t74, t75, t76, t77, t78, t79, t80, t81, t82, t83, t84, t85, t86, t87, t88, t89, t90, t91, t92, t93, t94, t95, t96, t97, t98, t99, t100, t101, t102, t103, t104, t105, t106, t107, t108, t109, t110, t111, t112, t113, t114, t115, t116, t117, t118, t119, t120, t121, t122, t123, t124, t125, t126, t127, t128, t129, t130, t131, t132, t133, t134, t135, t136, t137, t138, t139, t140, t141, t142, t143, t144, t145, t146, t147, t148, t149, t150, t151, t152, t153, t154, t155, t156, t157, t158, t159, t160, t161, t162, t163, t164, t165, t166, t167, t168, t169, t170, t171, t172, t173, t174, t175, t176, t177, t178, t179, t180, t181, t182, t183, t184, t185, t186, t187, t188, t189, t190, t191, t192, t193, t194, t195, t196, t197, t198, t199, t200, t201, t202, t203, t204, t205, t206, t207, t208, t209, t210, t211, t212, t213, t214, t215, t216, t217, t218, t219, t220, t221, t222, t223, t224, t225, t226, t227, t228, t229, t230, t231, t232, t233, t234, t235, t236, t237, t238, t239, t240, t241, t242, t243, t244, t245, t246, t247, t248, t249, t250, t251, t252, t253, t254, t255, t256, t257, t258, t259, t260, t261, t262, t263, t264, t265, t266, t267, t268, t269, t270, t271, t272, t273, t274, t275, t276, t277, t278, t279, t280, t281, t282, t283, t284, t285, t286, t287, t288, t289, t290, t291, t292, t293, t294, t295, t296, t297, t298, t299, t300, t301, t302, t303, t304, t305, t306, t307, t308, t309, t310, t311, t312, t313, t314, t315, t316, t317, t318, t319, t320, t321, t322, t323, t324, t325, t326, t327, t328, t329, t330, t331, t332, t333], []⟩ W := by
  obtain rfl := Option.some.inj ((rfl : Tryz.f10.body.bind (subC 206) = some _).symm.trans hc)
  have HN := Lib.hid hN
  have HR := Lib.hid hR
  clear hc hN hR
  dsimp only
  obtain ⟨xk, xn, xp, xc⟩ := x
  simp only at hk
  obtain ⟨hg, he, -, hpt⟩ := canB_iff.1 hcan
  simp only at hpt
  obtain ⟨j, hj0, hj, hat⟩ := atP_eq (eventB_part he) hpt
  simp only at hj0
  subst hj0
  have hsm := small_of_good hg
  obtain ⟨g, rfl⟩ := hT.own.ptr (by omega)
  obtain ⟨i1, ki, kz0, kz1, kz2⟩ := info_parts info_Int
  have hCv : changeP p ⟨xk, xn, (j : Int), xc⟩ = if p.parts[j].epoch = xc ∧ p.parts[j].learner = xn then (⟨p.nodes, p.copies, p.parts.set j ⟨p.parts[j].epoch, p.parts[j].chain ++ [xn], 0⟩, p.lives⟩, [(j : Int)], 0) else (p, [], 21) := by
    unfold changeP
    simp only
    rw [if_neg (by omega), if_neg (by omega), if_pos hk, atP_lt hj]
    simp
  rw [hC] at hCv
  obtain ⟨hjm, ca, cc, em, e0', e1, e2, fg, hcn, hgp, hgl, hgN⟩ := hT.own.place j hj
  have o2 := cells_of hT.own.blk 2 _ rfl
  have hch5 := hsm.2.1 _ (List.getElem_mem hj)
  have hl4 : (p.parts.length : Int) ≤ 1000 := by have := hsm.1.parts; omega
  obtain ⟨y, hy⟩ : ∃ y, p.parts[j] = y := ⟨_, rfl⟩
  rw [hy] at hCv e0' e1 e2 hcn hch5 em
  obtain ⟨ep, ch, le⟩ := y
  simp only at hCv e0' e1 e2 hcn hch5 em
  obtain ⟨⟨d0, d1, d2, d3⟩, ⟨y0, y1, y2, y3⟩⟩ := hF.cells
  obtain ⟨l1, l2, l3, l4, l5, l6⟩ := hF.lt
  have i2 : (0 : Int) ≤ (j : Int) := by omega
  have i3 : (j : Int) < (p.parts.length : Int) := by omega
  have hchl : (ch.length : Int) ≤ 5 := by omega
  obtain ⟨W1, hW1⟩ : ∃ W1, W1 = W.alloc (.cells #[.int .i64 ep, .slice ca ch.length cc, .int .i64 le] 74) := ⟨_, rfl⟩
  have hb1 : Below W.heap.size W W1 := by rw [hW1]; exact below_alloc _ _
  have hY : W1.heap[W.heap.size]? = some (.cells #[.int .i64 ep, .slice ca ch.length cc, .int .i64 le] 74 (0, 0)) := by rw [hW1]; exact heap_alloc_new _ _
  have hs1 : W.heap.size < W1.heap.size := by rw [hW1]; simp
  have hF1 := hF.below hb1
  have hT1 := hT.below hb1
  have HF1 := Lib.hid hF1
  have HT1 := Lib.hid hT1
  have HCV := Lib.hid hCv
  have HCN := Lib.hid (owns_upd hcn (Upd.of_below (F := fun _ => False) hb1) (fun _ _ h => h))
  have HY := Lib.hid hY
  have HEM := Lib.hid em
  have HW1 := Lib.hid hW1
  have HPJ := Lib.hid hy
  obtain ⟨-, ⟨-, v1, v2, v3⟩⟩ := hF1.cells
  have z0 := cells_of hY 0 _ rfl
  have z1 := cells_of hY 1 _ rfl
  have z2 := cells_of hY 2 _ rfl
  clear hF hT hC hCv hcan hg he hat hsm hcn em hy hb1 hF1 hT1 hY hW1 fg d0 d1 d2 d3 hpt
  go_upto_region 45 with fail
  rw [← HW1.out]
  clear e0' e1 e2 o2 y0 y1 y2 y3
  go_cut [225] from 208 to 245 (fun v wx => v = .bool (!decide (ep = xc ∧ le = xn)) ∧ wx = W1)
  case first =>
    by_cases h1 : ep = xc
    · by_cases h2 : le = xn
      · go_wp2
        go_meet
        exact ⟨by simp [h1, h2], rfl⟩
      · go_wp2
        go_meet
        exact ⟨by simp [h2], rfl⟩
    · go_wp2
      go_meet
      exact ⟨by simp [h1], rfl⟩
  case rest =>
  obtain ⟨rfl, hwc⟩ := hcut
  subst hwc
  by_cases hok : ep = xc ∧ le = xn
  case neg =>
    have he : e0 = 21 := by
      have h := HCV.out
      rw [if_neg hok] at h
      simp only [Prod.mk.injEq] at h
      exact h.2.2
    subst he
    have hd : (!decide (ep = xc ∧ le = xn)) = true := by rw [decide_eq_false hok]; rfl
    rw [hd]
    obtain ⟨⟨z0, z1, z2, z3⟩, ⟨r0, r1, r2, r3⟩, ⟨f0, f1, f2, f3⟩⟩ := HF1.out.zeros
    have HZ := Lib.hid HF1.out.zd
    clear v1 v2 v3 hok hd
    go_wp2
    refine HR.out _ _ ?_
    repeat apply Exists.intro
    exact ⟨⟨by decide, HZ.out⟩, rfl⟩
  case pos =>
  obtain ⟨rfl, rfl⟩ := hok
  have hE : (q0, T, e0) = ((⟨p.nodes, p.copies, p.parts.set j ⟨ep, ch ++ [le], 0⟩, p.lives⟩ : Pl), [(j : Int)], (0 : Int)) := by
    have h := HCV.out
    rw [if_pos ⟨rfl, rfl⟩] at h
    exact h
  simp only [Prod.mk.injEq] at hE
  obtain ⟨rfl, rfl, rfl⟩ := hE
  have hd : (!decide (ep = ep ∧ le = le)) = false := by simp
  rw [hd]
  clear hd HCV
  -- the append to the chain, and what is stored
  have hYne : ∀ k, some k = (Value.slice ca ch.length cc).ownBlock → k ≠ W.heap.size := by
    rintro k hk rfl
    obtain ⟨c', hc'⟩ := owns_block HCN.out _ hk.symm
    rw [HY.out] at hc'
    simp at hc'
  have hgY : g ≠ W.heap.size := by omega
  have hkeep : ∀ W9, Upd (fun b => some b = (Value.slice ca ch.length cc).ownBlock) wc W9 → W9.cell? ⟨W.heap.size, 1, none⟩ = some (.slice ca ch.length cc) ∧ W9.frozen? ⟨W.heap.size, 1, none⟩ = false ∧ W9.frozen? ⟨W.heap.size, 2, none⟩ = false ∧ W9.heap[W.heap.size]? = some (.cells #[.int .i64 ep, .slice ca ch.length cc, .int .i64 le] 74 (0, 0)) := by
    intro W9 hu
    have h := (hu.block W.heap.size (by omega) (fun e => hYne _ e rfl)).trans HY.out
    exact ⟨cells_of h 1 _ rfl, frozen_of h, frozen_of h, h⟩
  have HK := Lib.hid hkeep
  have HCN2 := Lib.hid (HCN.out.alloc (.cells #[.int .i64 le] 3))
  clear hkeep hYne
  go_upto_region 48 with (first | (at_builtin; (refine wpList_append_lies _ rfl _ _ 32 rfl B 3 i1 _ 1 8 und_Ints ki kz0 kz1 kz2 rfl (by decide) (.slice ca ch.length cc) ch.length (intCells ch) rfl HCN2.out ⟨wc.heap.size, 0, none⟩ 1 1 [.int .i64 le] rfl rfl (World.news_of_block (cs := #[.int .i64 le]) (t := 3) (fr := (0, 0)) (heap_alloc_new wc _)) (by simp [Value.oneCell']) (by decide) ?_ ?_ ?_ _ rfl ?_; (unfold maxLen; omega); (omega); (simp only [World.size_alloc]; omega); intro g9 cap9 w9 hown9 hgrow9 hat9 hlt9; have hu9 := (upd_alloc (fun b => some b = (Value.slice ca ch.length cc).ownBlock) wc (.cells #[.int .i64 le] 3)).trans (upd_grown hgrow9); obtain ⟨zc, zf, -, -⟩ := HK.out _ hu9; have H9 := Lib.hid (And.intro hown9 (And.intro hu9 hat9)); clear hown9 hgrow9 hat9 hlt9 hu9)))
  obtain ⟨hown9, hu9, hat9⟩ := H9.out
  obtain ⟨-, -, -, hY9⟩ := HK.out _ hu9
  have hs9 := hu9.size
  obtain ⟨wa, hwa⟩ : ∃ wa, wa = (w9.setCell ⟨W.heap.size, 1, none⟩ (.slice (some ⟨g9, 0, none⟩) (ch.length + 1) cap9)).setCell ⟨W.heap.size, 2, none⟩ (.int .i64 0) := ⟨_, rfl⟩
  have hsy := (upd_set1 w9 W.heap.size 1 (.slice (some ⟨g9, 0, none⟩) (ch.length + 1) cap9)).trans (upd_set1 _ W.heap.size 2 (.int .i64 0))
  have hYa : wa.heap[W.heap.size]? = some (.cells #[.int .i64 ep, .slice (some ⟨g9, 0, none⟩) (ch.length + 1) cap9, .int .i64 0] 74 (0, 0)) := by rw [hwa]; exact setCell_same (setCell_same hY9)
  rw [← hwa] at hsy
  have hua : Upd (fun k => some k = (Value.slice ca ch.length cc).ownBlock ∨ k = W.heap.size) wc wa := (hu9.mono (fun _ _ h => .inl h)).trans (hsy.mono (fun _ _ h => .inr h))
  have hlo := fun k (hk : some k = (Value.slice ca ch.length cc).ownBlock) => (owns_lt HCN.out k hk.symm).1
  have hFa := HF1.out.upd hua (fun k hk => by rcases hk with hk | rfl; exact hlo k hk; omega)
  have hg9 : g9 ≠ W.heap.size := by
    rintro rfl
    obtain ⟨c', hc'⟩ := owns_block hown9 _ rfl
    rw [hY9] at hc'
    simp at hc'
  have howna : wa.ownsRow B 3 1 (.slice (some ⟨g9, 0, none⟩) (ch.length + 1) cap9) (ch.length + 1) (intCells ch ++ [.int .i64 le]) := owns_upd hown9 hsy (fun k hk e => by simp only [Value.ownBlock, Option.some.injEq] at hk; omega)
  have hTa := HT1.out.store (w' := wa) j hjm hua (fun k hk => by
      rcases hk with hk | rfl
      · exact .inl (by rw [HEM.out]; exact hk.symm)
      · exact .inr ⟨fun e => hgY e.symm, _, HY.out⟩) (cv := .slice (some ⟨g9, 0, none⟩) (ch.length + 1) cap9) ⟨ep, ch ++ [le], 0⟩ (by simpa [intCells] using howna) (fun k hk => by
      simp only [Value.ownBlock, Option.some.injEq] at hk
      subst hk
      rcases hat9 with h2 | h2
      · exact .inl (by rw [HEM.out]; exact h2)
      · right; rw [h2]; simp)
  have hsg := ((upd_set1 wa g (j * 3) (.int .i64 ep)).trans (upd_set1 _ g (j * 3 + 1) (.slice (some ⟨g9, 0, none⟩) (ch.length + 1) cap9))).trans (upd_set1 _ g (j * 3 + 2) (.int .i64 0))
  have hFb := hFa.upd hsg (fun k e => by omega)
  -- what the walk reads
  have pl := (HT1.out.own.place j hj)
  obtain ⟨cg, hcg⟩ := owns_block HT1.out.own.parts.own g rfl
  have hga := (hua.block g (by omega) (fun e => by rcases e with e | e; (obtain ⟨c', hc'⟩ := owns_block HCN.out _ e.symm; rw [hcg] at hc'; simp at hc'); exact hgY e)).trans hcg
  have hXa := (hua.block X HT1.out.own.lt (fun e => by rcases e with e | e; (obtain ⟨c', hc'⟩ := owns_block HCN.out _ e.symm; have := HT1.out.own.blk; rw [hc'] at this; simp at this); (have := HT1.out.own.blk; rw [e, HY.out] at this; simp at this))).trans HT1.out.own.blk
  obtain ⟨_, _, _, -, p0, p1, p2, -, -, -, -, -⟩ := pl
  have hpc : ∀ o v, wc.cell? ⟨g, o, none⟩ = some v → ∃ v', wa.cell? ⟨g, o, none⟩ = some v' := by
    intro o v h
    rw [World.cell?_of_block (hga.trans hcg.symm)]
    exact ⟨v, h⟩
  obtain ⟨s0, b0⟩ := hpc _ _ p0
  obtain ⟨s1, b1⟩ := hpc _ _ p1
  obtain ⟨s2, b2⟩ := hpc _ _ p2
  have fg0 : wa.frozen? ⟨g, j * 3, none⟩ = false := frozen_of hga
  have fg1 : wa.frozen? ⟨g, j * 3 + 1, none⟩ = false := frozen_of hga
  have fg2 : wa.frozen? ⟨g, j * 3 + 2, none⟩ = false := frozen_of hga
  have xa2 := cells_of hXa 2 _ rfl
  obtain ⟨-, ⟨-, n1, n2, -⟩⟩ := hFa.cells
  have q0' := cells_of hYa 0 _ rfl
  have q1' := cells_of hYa 1 _ rfl
  have q2' := cells_of hYa 2 _ rfl
  have cy2 := cells_of (setCell_same (o := 1) (v := .slice (some ⟨g9, 0, none⟩) (ch.length + 1) cap9) hY9) 2 _ rfl
  have fy2 : (w9.setCell ⟨W.heap.size, 1, none⟩ (.slice (some ⟨g9, 0, none⟩) (ch.length + 1) cap9)).frozen? ⟨W.heap.size, 2, none⟩ = false := frozen_of (setCell_same hY9)
  obtain ⟨wb, hwb⟩ : ∃ wb, wb = ((wa.setCell ⟨g, j * 3, none⟩ (.int .i64 ep)).setCell ⟨g, j * 3 + 1, none⟩ (.slice (some ⟨g9, 0, none⟩) (ch.length + 1) cap9)).setCell ⟨g, j * 3 + 2, none⟩ (.int .i64 0) := ⟨_, rfl⟩
  dsimp only at hTa
  have hTb := hTa
  rw [← hwb] at hTb
  rw [← hwb] at hFb
  obtain ⟨-, ⟨-, -, m2', -⟩⟩ := hFb.cells
  have hlow := hFb.lt.2.2.2.2.2
  have H3 := Lib.hid (And.intro hTb hFb)
  have HWA := Lib.hid hwa
  have HWB := Lib.hid hwb
  clear hown9 hu9 hat9 hY9 hsy hYa hua hlo hFa hg9 howna hTa hsg hFb hga hXa hcg hpc hTb hwa hwb p0 p1 p2 v1 v2 v3 z0 z1 z2 zc zf HK HCN2 H9 HCN HY
  go_upto_region 49 with fail
  rw [← HWA.out]
  clear cy2 fy2
  go_upto_region 50 with fail
  rw [← HWB.out]
  clear b0 b1 b2 fg0 fg1 fg2 xa2 n1 n2 q0' q1' q2'
  go_wp2_with (first | (at_builtin; refine wpList_append_lies _ rfl _ _ 32 rfl B 3 i1 _ 1 8 und_Ints ki kz0 kz1 kz2 rfl (by decide) (.slice (some ⟨tb, 0, none⟩) 0 0) 0 [] rfl (H3.out.1.tur.alloc _) ⟨wb.heap.size, 0, none⟩ 1 1 [.int .i64 j] rfl rfl (World.news_of_block (cs := #[.int .i64 j]) (t := 3) (fr := (0, 0)) (heap_alloc_new wb _)) (by simp [Value.oneCell']) (by decide) ?_ ?_ ?_ _ rfl ?_; (unfold maxLen; omega); (omega); (simp only [World.size_alloc]; omega); intro g8 cap8 w8 hown8 hgrow8 hat8 hlt8; have H8 := Lib.hid (H3.out.1.push1 (i := (j : Int)) hown8 hgrow8 hat8); clear hown8 hgrow8 hat8 hlt8))
  refine HN.out _ _ ?_
  repeat apply Exists.intro
  exact ⟨⟨by trivial, H8.out.1, H3.out.2.upd H8.out.2 (fun k hk => (owns_lt H3.out.1.tur k hk.symm).1)⟩, rfl⟩
end Go.Proofs.YtjkobbmdemooaaaGreatDoor
