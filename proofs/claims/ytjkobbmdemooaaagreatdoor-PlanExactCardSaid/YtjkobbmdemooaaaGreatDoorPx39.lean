/- The reference's Apply of layer 12: a partition more. -/
import Derived.Test.YtjkobbmdemooaaaGreatDoorPx29
import Derived.Test.YtjkobbmdemooaaaGreatDoorPx35
import Derived.Test.YtjkobbmdemooaaaGreatDoorPx36
namespace Go.Proofs.YtjkobbmdemooaaaGreatDoor
open Go.RowKit

set_option maxRecDepth 100000 in
set_option maxHeartbeats 8000000 in
theorem ra_r54 {c : Code} (hc : Tryz.f10.body.bind (subR 54) = some c) {w W : World} {N N1 N2 N3 B X tb : Nat} {n c' : Nat} {P : List Pt} {L : List (Int × Int)} {pa la : Option Addr} {pc lc : Nat} {x : Event} (hF : Fx w W N N1 N2 N3 B ⟨(n : Int), (c' : Int), P, L⟩ pa la pc lc x)
    {pa2 la2 : Option Addr} {pc2 lc2 : Nat} {m2 : List (Value × Pt)} (hT : Tn W B X ⟨(n : Int), (c' : Int), P, L⟩ [] pa2 pc2 la2 lc2 m2 (.slice (some ⟨tb, 0, none⟩) 0 0)) (hn0 : 0 < n) (hn5 : n ≤ 5) (hc5 : c' ≤ 5) (hp4 : P.length ≤ 4)
    {J K : Act → World → Prop} {Po : Ending → World → Prop} {t0 t1 t5 t6 t10 t11 t12 t13 t14 t15 t16 t17 t18 t19 t20 t21 t22 t23 t24 t25 t26 t27 t28 t29 t30 t31 t32 t33 t34 t35 t36 t37 t38 t39 t40 t41 t42 t43 t44 t45 t46 t47 t48 t49 t50 t51 t52 t53 t54 t55 t56 t57 t58 t59 t60 t61 t62 t63 t64 t65 t66 t67 t68 t69 t70 t71 t72 t73 t74 t75 t76 t77 t78 t79 t80 t81 t82 t83 t84 t85 t86 t87 t88 t89 t90 t91 t92 t93 t94 t95 t96 t97 t98 t99 t100 t101 t102 t103 t104 t105 t106 t107 t108 t109 t110 t111 t112 t113 t114 t115 t116 t117 t118 t119 t120 t121 t122 t123 t124 t125 t126 t127 t128 t129 t130 t131 t132 t133 t134 t135 t136 t137 t138 t139 t140 t141 t142 t143 t144 t145 t146 t147 t148 t149 t150 t151 t152 t153 t154 t155 t156 t157 t158 t159 t160 t161 t162 t163 t164 t165 t166 t167 t168 t169 t170 t171 t172 t173 t174 t175 t176 t177 t178 t179 t180 t181 t182 t183 t184 t185 t186 t187 t188 t189 t190 t191 t192 t193 t194 t195 t196 t197 t198 t199 t200 t201 t202 t203 t204 t205 t206 t207 t208 t209 t210 t211 t212 t213 t214 t215 t216 t217 t218 t219 t220 t221 t222 t223 t224 t225 t226 t227 t228 t229 t230 t231 t232 t233 t234 t235 t236 t237 t238 t239 t240 t241 t242 t243 t244 t245 t246 t247 t248 t249 t250 t251 t252 t253 t254 t255 t256 t257 t258 t259 t260 t261 t262 t263 t264 t265 t266 t267 t268 t269 t270 t271 t272 t273 t274 t275 t276 t277 t278 t279 t280 t281 t282 t283 t284 t285 t286 t287 t288 t289 t290 t291 t292 t293 t294 t295 t296 t297 t298 t299 t300 t301 t302 t303 t304 t305 t306 t307 t308 t309 t310 t311 t312 t313 t314 t315 t316 t317 t318 t319 t320 t321 t322 t323 t324 t325 t326 t327 t328 t329 t330 t331 t332 t333 : Value}
    (hJ : ∀ a' w', (∃ (u253 u254 u255 u256 u257 u258 u259 u260 u261 u262 u263 u264 u265 : Value), (∃ (pa3 : Option Addr) (pc3 : Nat) (m3 : List (Value × Pt)), PlanOwn w' B X ⟨(n : Int), (c' : Int), P ++ [placeP P.length n c'], L⟩ pa3 pc3 la2 lc2 m3 ∧ Fx w w' N N1 N2 N3 B ⟨(n : Int), (c' : Int), P, L⟩ pa la pc lc x) ∧ a' = ⟨#[t0, t1, .pointer (some ⟨N, 0, none⟩), .pointer (some ⟨N1, 0, none⟩), .pointer (some ⟨N2, 0, none⟩), t5, t6, .pointer (some ⟨N3, 0, none⟩), .pointer (some ⟨X, 0, none⟩), .slice (some ⟨tb, 0, none⟩) 0 0, t10, t11, t12, t13, t14, t15, t16, t17, t18, t19, t20, t21, t22, t23, t24, t25, t26, t27, t28, t29, t30, t31, t32, t33, t34, t35, t36, t37, t38, t39, t40, t41, t42, t43, t44, t45, t46, t47, t48, t49, t50, t51, t52, t53, t54, t55, t56, t57, t58, t59, t60, t61, t62, t63, t64, t65, t66, t67, t68, t69, t70, t71, t72, t73, t74, t75, t76, t77, t78, t79, t80, t81, t82, t83, t84, t85, t86, t87, t88, t89, t90, t91, t92, t93, t94, t95, t96, t97, t98, t99, t100, t101, t102, t103, t104, t105, t106, t107, t108, t109, t110, t111, t112, t113, t114, t115, t116, t117, t118, t119, t120, t121, t122, t123, t124, t125, t126, t127, t128, t129, t130, t131, t132, t133, t134, t135, t136, t137, t138, t139, t140, t141, t142, t143, t144, t145, t146, t147, t148, t149, t150, t151, t152, t153, t154, t155, t156, t157, t158, t159, t160, t161, t162, t163, t164, t165, t166, t167, t168, t169, t170, t171, t172, t173, t174, t175, t176, t177, t178, t179, t180, t181, t182, t183, t184, t185, t186, t187, t188, t189, t190, t191, t192, t193, t194, t195, t196, t197, t198, t199, t200, t201, t202, t203, t204, t205, t206, t207, t208, t209, t210, t211, t212, t213, t214, t215, t216, t217, t218, t219, t220, t221, t222, t223, t224, t225, t226, t227, t228, t229, t230, t231, t232, t233, t234, t235, t236, t237, t238, t239, t240, t241, t242, t243, t244, t245, t246, t247, t248, t249, t250, t251, t252, u253, u254, u255, u256, u257, u258, u259, u260, u261, u262, u263, u264, u265, t266, t267, t268, t269, t270, t271, t272, t273, t274, t275, t276, t277, t278, t279, t280, t281, t282, t283, t284, t285, t286, t287, t288, t289, t290, t291, t292, t293, t294, t295, t296, t297, t298, t299, t300, t301, t302, t303, t304, t305, t306, t307, t308, t309, t310, t311, t312, t313, t314, t315, t316, t317, t318, t319, t320, t321, t322, t323, t324, t325, t326, t327, t328, t329, t330, t331, t332, t333], []⟩) → J a' w') :
    Code.wp Tryz.prog c (Exit.then J (Exit.inBlock 0 (Exit.then K (bodyPost Tryz.prog Tryz.f10 Po)))) ⟨#[t0, t1, .pointer (some ⟨N, 0, none⟩), .pointer (some ⟨N1, 0, none⟩), .pointer (some ⟨N2, 0, none⟩), t5, t6, .pointer (some ⟨N3, 0, none⟩), .pointer (some ⟨X, 0, none⟩), .slice (some ⟨tb, 0, none⟩) 0 0, t10, t11, t12, t13, t14, t15, t16, t17, t18, t19, t20, t21, t22, t23, t24, t25, t26, t27, t28, t29, t30, t31, t32, t33, t34, t35, t36, t37, t38, t39, t40, t41, t42, t43, t44, t45, t46, t47, t48, t49, t50, t51, t52, t53, t54, t55, t56, t57, t58, t59, t60, t61, t62, t63, t64, t65, t66, t67, t68, t69, t70, t71, t72, t73, t74, t75, t76, t77, t78, t79, t80, t81, t82, t83, t84, t85, t86, t87, t88, t89, t90, t91, t92, t93, t94, t95, t96, t97, t98, t99, t100, t101, t102, t103, t104, t105, t106, t107, t108, t109, t110, t111, t112, t113, t114, t115, t116, t117, t118, t119, t120, t121, t122, t123, t124, t125, t126, t127, t128, t129, t130, t131, t132, t133, t134, t135, t136, t137, t138, t139, t140, t141, t142, t143, t144, t145, t146, t147, t148, t149, t150, t151, t152, t153, t154, t155, t156, t157, t158, t159, t160, t161, t162, t163, t164, t165, t166, t167, t168, t169, t170, t171, t172, t173, t174, t175, t176, t177, t178, t179, t180, t181, t182, t183, t184, t185, t186, t187, t188, t189, t190, t191, t192, t193, t194, t195, t196, t197, t198, t199, t200, t201, t202, t203, t204, t205, t206, t207, t208, t209, t210, t211, t212, t213, t214, t215, t216, t217, t218, t219, t220, t221, t222, t223, t224, t225, t226, t227, t228, t229, t230, t231, t232, t233, t234, t235, t236, t237, t238, t239, t240, t241, t242, t243, t244, t245, t246, t247, t248, t249, t250, t251, t252, t253, t254, t255, t256, t257, t258, t259, t260, t261, t262, t263, t264, t265, t266, t267, t268, t269, t270, t271, t272, t273, t274, t275, t276, t277, t278, t279, t280, t281, t282, t283, t284, t285, t286, t287, t288, t289, t290, t291, t292, t293, t294, t295, t296, t297, t298, t299, t300, t301, t302, t303, t304, t305, t306, t307, t308, t309, t310, t311, t312, t313, t314, t315, t316, t317, t318, t319, t320, t321, t322, t323, t324, t325, t326, t327, t328, t329, t330, t331, t332, t333], []⟩ W := by
  obtain rfl := Option.some.inj ((rfl : Tryz.f10.body.bind (subR 54) = some _).symm.trans hc)
  have HJ := Lib.hid hJ
  clear hc hJ
  dsimp only
  obtain ⟨i2, mi, mz0, mz1, mz2⟩ := info_parts info_Part
  obtain ⟨⟨d0, d1, d2, d3⟩, -⟩ := hF.cells
  simp only at d0 d1 d2 d3
  obtain ⟨l1, l2, l3, l4, l5, l6⟩ := hF.lt
  have hlow := hT.own.low
  have hXl := hT.own.lt
  have o2 := cells_of hT.own.blk 2 _ rfl
  have HT := Lib.hid hT
  have HF := Lib.hid hF
  have hml : m2.length = P.length := hT.own.len
  have hownk : W.ownsRow B 74 3 (.slice pa2 P.length pc2) P.length (partCells m2) := by have h := hT.own.parts.own; rw [hml] at h; exact h
  have hkeep : ∀ w', Upd (fun b => some b = (Value.slice pa2 P.length pc2).ownBlock) W w' → w'.cell? ⟨N, 0, none⟩ = some (.int .i64 (n : Int)) ∧ w'.cell? ⟨N, 1, none⟩ = some (.int .i64 (c' : Int)) ∧ w'.cell? ⟨X, 2, none⟩ = some (.slice pa2 P.length pc2) ∧ w'.frozen? ⟨X, 2, none⟩ = false ∧ Fx w w' N N1 N2 N3 B ⟨(n : Int), (c' : Int), P, L⟩ pa la pc lc x := by
    intro w' hu
    have hF' := hF.upd hu (fun k e => (owns_lt hownk k e.symm).1)
    have hXne : ¬ some X = (Value.slice pa2 P.length pc2).ownBlock := fun e => by
      obtain ⟨c', hc'⟩ := owns_block hownk _ e.symm
      have := hT.own.blk
      rw [hc'] at this
      simp at this
    have hb := (hu.block X hXl hXne).trans hT.own.blk
    obtain ⟨⟨e0, e1, -, -⟩, -⟩ := hF'.cells
    exact ⟨e0, e1, cells_of hb 2 _ rfl, frozen_of hb, hF'⟩
  have HK := Lib.hid hkeep
  have HOWN := Lib.hid hownk
  have HML := Lib.hid hml
  obtain ⟨-, -, -, fx, -⟩ := hkeep W (Upd.refl _ _)
  clear hkeep hownk hF hT d2 d3 hml
  go_region_law
    (first
      | (refine step_append_lies _ (by rfl) _ _ _ (by rfl) B 74 i2 _ 3 40 und_Parts mi mz0 mz1 mz2 rfl (by omega) (.slice pa2 P.length pc2) P.length (partCells m2) (by rfl) ((owns_upd HOWN.out hu5 (fun _ _ h => h)).alloc _) ⟨w5.heap.size, 0, none⟩ 1 1 [.int .i64 1, .slice ca c' cc, .int .i64 0] (by rfl) (by rfl) (World.news_of_block (cs := #[.int .i64 1, .slice ca c' cc, .int .i64 0]) (t := 74) (fr := (0, 0)) (heap_alloc_new w5 _)) (by simp [Value.oneCell']) (by omega) ?_ ?_ ?_ _ rfl ?_; (unfold maxLen; omega); omega; (first | (simp only [World.size_alloc, World.size_drew]; omega) | omega); rintro g9 gcap9 w9 hown9 hgrow9 - hlt9; obtain ⟨_, _, c9, f9, -⟩ := HK.out w9 (((Upd.of_below hu5.below).trans (upd_alloc _ w5 _)).trans (upd_grown hgrow9)))
      | (go_simp; go_at_call 45; refine (R12place_any P.length n c' _ hn0 (by omega) (by omega) (by omega)).mono ?_; rintro e w5 ⟨cv, rfl, hown5, hb5⟩; obtain ⟨ca, cc, rfl, -⟩ := (Sl.of_owns hown5).shape; have hu5 : Upd (fun _ => False) W w5 := (upd_drew _ W).trans (Upd.of_below hb5); have hs5 := hu5.size; obtain ⟨c50, c53, c55, f5, -⟩ := HK.out w5 (Upd.of_below hu5.below); have hka : ∀ o, (w5.alloc o).cell? ⟨X, 2, none⟩ = some (.slice pa2 P.length pc2) := fun o => (HK.out (w5.alloc o) ((Upd.of_below hu5.below).trans (upd_alloc _ w5 o))).2.2.1))
  all_goals
    have hu9 := ((Upd.of_below (F := fun b => some b = (Value.slice pa2 P.length pc2).ownBlock) hu5.below).trans (upd_alloc _ w5 (.cells #[.int .i64 1, .slice ca c' cc, .int .i64 0] 74))).trans (upd_grown hgrow9)
    have hsn := HT.out.own.parts.snoc (x := placeP P.length n c') l6 hu5.below (cv := .slice ca c' cc) (by have := owns_mono (base' := W.heap.size) hown5 (Nat.le_refl _); simpa [placeP, chainP_length] using this) ((upd_alloc _ w5 (.cells #[.int .i64 1, .slice ca c' cc, .int .i64 0] 74)).trans (upd_grown hgrow9)) (by rw [HML.out]; exact hown9)
    have hln : (P ++ [placeP P.length n c']).length = P.length + 1 := by simp
    have hPO := HT.out.own.setParts (pa' := some ⟨g9, 0, none⟩) (pc' := gcap9) hu9 (fun k e => owns_block HT.out.own.parts.own k e.symm) (P := P ++ [placeP P.length n c']) (m' := m2 ++ [(.slice ca c' cc, placeP P.length n c')]) (by rw [List.map_append, HT.out.own.eq]; rfl) (by rw [hln]; exact hsn)
    rw [hln] at hPO
    have hF9 := (HK.out w9 hu9).2.2.2.2.upd (upd_set1 w9 X 2 (.slice (some ⟨g9, 0, none⟩) (P.length + 1) gcap9)) (fun k e => by omega)
    have HY := Lib.hid (And.intro hPO hF9)
    clear hsn hu9 hgrow9 hown9 hown5 hb5 hu5 hka c50 c53 c55 f5 d0 d1 o2 fx hPO hF9 hln
    go_wp2_with fail
    refine HJ.out _ _ ?_
    repeat apply Exists.intro
    exact ⟨⟨_, _, _, HY.out.1, HY.out.2⟩, rfl⟩
end Go.Proofs.YtjkobbmdemooaaaGreatDoor
