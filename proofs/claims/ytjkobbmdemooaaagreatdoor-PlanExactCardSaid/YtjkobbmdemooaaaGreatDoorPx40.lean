/- The reference's Apply of layer 12: a partition more: the answer. -/
import Derived.Test.YtjkobbmdemooaaaGreatDoorPx29
import Derived.Test.YtjkobbmdemooaaaGreatDoorPx33
import Derived.Test.YtjkobbmdemooaaaGreatDoorPx36
namespace Go.Proofs.YtjkobbmdemooaaaGreatDoor
open Go.RowKit

/-- What is answered where a partition has come: the answer's words lie in the call's own memory. -/
theorem k4_fin {w w' W2 : World} {N N1 N2 N3 B X : Nat} {p q : Pl} {pa la pa3 la3 : Option Addr} {pc lc pc3 lc3 : Nat} {x : Event} {m3 : List (Value × Pt)} {i : Int} (hPO : PlanOwn w' B X q pa3 pc3 la3 lc3 m3) (hF : Fx w w' N N1 N2 N3 B p pa la pc lc x)
    (hu : Upd (fun j => j = N2) w' W2) (hnew : W2.heap[w'.heap.size]? = some (.cells #[.int .i64 i] 3 (0, 0))) :
    PlanFrom W2 w.heap.size (planV q pa3 pc3 la3 lc3) q ∧ TurnRd W2 (.slice (some ⟨w'.heap.size, 0, none⟩) 1 1) [i] ∧ Below w.heap.size w W2 := by
  obtain ⟨l1, l2, l3, l4, l5, l6⟩ := hF.lt
  exact ⟨(hPO.lowU hu (fun j e => by omega)).toFrom.mono (by omega), TurnRd.of_owns (ints_made hnew), hF.bel.trans (hu.toBelow hF.bel.size (fun j e => by omega))⟩

def K4Out (w : World) (N2 : Nat) (n c' : Int) (P : List Pt) (L : List (Int × Int)) (q : Pt) (pa3 la2 : Option Addr) (pc3 lc2 g : Nat) (W2 : World) : Prop :=
  (W2.cell? ⟨N2, 0, none⟩ = some (.int .i64 n) ∧ W2.cell? ⟨N2, 1, none⟩ = some (.int .i64 c') ∧ W2.cell? ⟨N2, 2, none⟩ = some (.slice pa3 (P.length + 1) pc3) ∧ W2.cell? ⟨N2, 3, none⟩ = some (.slice la2 L.length lc2)) ∧
  PlanFrom W2 w.heap.size (.agg #[.int .i64 n, .int .i64 c', .slice pa3 (P.length + 1) pc3, .slice la2 L.length lc2]) ⟨n, c', P ++ [q], L⟩ ∧ TurnRd W2 (.slice (some ⟨g, 0, none⟩) 1 1) [(P.length : Int)] ∧ Below w.heap.size w W2

theorem k4_A {w w' : World} {N N1 N2 N3 B X : Nat} {p : Pl} {pa la pa3 la2 : Option Addr} {pc lc pc3 lc2 : Nat} {x : Event} {m3 : List (Value × Pt)} {n c' : Int} {P : List Pt} {L : List (Int × Int)} {q : Pt} (hPO : PlanOwn w' B X ⟨n, c', P ++ [q], L⟩ pa3 pc3 la2 lc2 m3) (hF : Fx w w' N N1 N2 N3 B p pa la pc lc x) :
    K4Out w N2 n c' P L q pa3 la2 pc3 lc2 w'.heap.size (((((w'.alloc (.cells #[.int .i64 (P.length : Int)] 3)).setCell ⟨N2, 0, none⟩ (.int .i64 n)).setCell ⟨N2, 1, none⟩ (.int .i64 c')).setCell ⟨N2, 2, none⟩ (.slice pa3 (P.length + 1) pc3)).setCell ⟨N2, 3, none⟩ (.slice la2 L.length lc2)).drew := by
  obtain ⟨l1, l2, l3, l4, l5, l6⟩ := hF.lt
  have hs := upd_set4 (w'.alloc (.cells #[.int .i64 (P.length : Int)] 3)) N2 (.int .i64 n) (.int .i64 c') (.slice pa3 (P.length + 1) pc3) (.slice la2 L.length lc2)
  have hz := setCell_same (o := 3) (v := .slice la2 L.length lc2) (setCell_same (o := 2) (v := .slice pa3 (P.length + 1) pc3) (setCell_same (o := 1) (v := .int .i64 c') (setCell_same (o := 0) (v := .int .i64 n) ((Below.heap_alloc w' (.cells #[.int .i64 (P.length : Int)] 3) N2 (by omega)).trans hF.res))))
  have hnew := (hs.block w'.heap.size (by simp) (by omega)).trans (heap_alloc_new w' _)
  have hu := (upd_alloc (fun j => j = N2) w' (.cells #[.int .i64 (P.length : Int)] 3)).trans hs
  generalize ((((w'.alloc (.cells #[.int .i64 (P.length : Int)] 3)).setCell ⟨N2, 0, none⟩ (.int .i64 n)).setCell ⟨N2, 1, none⟩ (.int .i64 c')).setCell ⟨N2, 2, none⟩ (.slice pa3 (P.length + 1) pc3)).setCell ⟨N2, 3, none⟩ (.slice la2 L.length lc2) = wz at *
  have hfin := k4_fin (W2 := wz.drew) (i := (P.length : Int)) hPO hF (hu.trans (upd_drew _ _)) hnew
  simp only [planV, List.length_append, List.length_cons, List.length_nil, Nat.zero_add] at hfin
  exact ⟨⟨cells_of (w := wz.drew) hz 0 _ rfl, cells_of (w := wz.drew) hz 1 _ rfl, cells_of (w := wz.drew) hz 2 _ rfl, cells_of (w := wz.drew) hz 3 _ rfl⟩, hfin⟩

theorem k4_B {w w' : World} {N N1 N2 N3 B X : Nat} {p : Pl} {pa la pa3 la2 : Option Addr} {pc lc pc3 lc2 : Nat} {x : Event} {m3 : List (Value × Pt)} {n c' : Int} {P : List Pt} {L : List (Int × Int)} {q : Pt} (hPO : PlanOwn w' B X ⟨n, c', P ++ [q], L⟩ pa3 pc3 la2 lc2 m3) (hF : Fx w w' N N1 N2 N3 B p pa la pc lc x) :
    K4Out w N2 n c' P L q pa3 la2 pc3 lc2 w'.heap.size (((((w'.setCell ⟨N2, 0, none⟩ (.int .i64 n)).setCell ⟨N2, 1, none⟩ (.int .i64 c')).setCell ⟨N2, 2, none⟩ (.slice pa3 (P.length + 1) pc3)).setCell ⟨N2, 3, none⟩ (.slice la2 L.length lc2)).alloc (.cells #[.int .i64 (P.length : Int)] 3)).drew := by
  obtain ⟨l1, l2, l3, l4, l5, l6⟩ := hF.lt
  have hs := upd_set4 w' N2 (.int .i64 n) (.int .i64 c') (.slice pa3 (P.length + 1) pc3) (.slice la2 L.length lc2)
  have hz := setCell_same (o := 3) (v := .slice la2 L.length lc2) (setCell_same (o := 2) (v := .slice pa3 (P.length + 1) pc3) (setCell_same (o := 1) (v := .int .i64 c') (setCell_same (o := 0) (v := .int .i64 n) hF.res)))
  have hsz : ((((w'.setCell ⟨N2, 0, none⟩ (.int .i64 n)).setCell ⟨N2, 1, none⟩ (.int .i64 c')).setCell ⟨N2, 2, none⟩ (.slice pa3 (P.length + 1) pc3)).setCell ⟨N2, 3, none⟩ (.slice la2 L.length lc2)).heap.size = w'.heap.size := by simp [World.setCell]
  generalize (((w'.setCell ⟨N2, 0, none⟩ (.int .i64 n)).setCell ⟨N2, 1, none⟩ (.int .i64 c')).setCell ⟨N2, 2, none⟩ (.slice pa3 (P.length + 1) pc3)).setCell ⟨N2, 3, none⟩ (.slice la2 L.length lc2) = wz at *
  have hnew := heap_alloc_new wz (.cells #[.int .i64 (P.length : Int)] 3)
  rw [hsz] at hnew
  have hz2 := (Below.heap_alloc wz (.cells #[.int .i64 (P.length : Int)] 3) N2 (Array.getElem?_eq_some_iff.1 hz).1).trans hz
  have hfin := k4_fin (W2 := (wz.alloc (.cells #[.int .i64 (P.length : Int)] 3)).drew) (i := (P.length : Int)) hPO hF ((hs.trans (upd_alloc _ wz (.cells #[.int .i64 (P.length : Int)] 3))).trans (upd_drew _ _)) hnew
  simp only [planV, List.length_append, List.length_cons, List.length_nil, Nat.zero_add] at hfin
  exact ⟨⟨cells_of (w := (wz.alloc _).drew) hz2 0 _ rfl, cells_of (w := (wz.alloc _).drew) hz2 1 _ rfl, cells_of (w := (wz.alloc _).drew) hz2 2 _ rfl, cells_of (w := (wz.alloc _).drew) hz2 3 _ rfl⟩, hfin⟩


set_option maxRecDepth 100000 in
set_option maxHeartbeats 64000000 in
theorem ra_r55 {c : Code} (hc : Tryz.f10.body.bind (subR 55) = some c) {w W : World} {N N1 N2 N3 B X tb : Nat} {n c' : Nat} {P : List Pt} {L : List (Int × Int)} {q : Pt} {pa la : Option Addr} {pc lc : Nat} {x : Event}
    {pa3 la2 : Option Addr} {pc3 lc2 : Nat} {m3 : List (Value × Pt)} {p : Pl} (hPO : PlanOwn W B X ⟨(n : Int), (c' : Int), P ++ [q], L⟩ pa3 pc3 la2 lc2 m3) (hF : Fx w W N N1 N2 N3 B p pa la pc lc x) (hp4 : P.length ≤ 4)
    {J K : Act → World → Prop} {Po : Ending → World → Prop} {t0 t1 t5 t6 t10 t11 t12 t13 t14 t15 t16 t17 t18 t19 t20 t21 t22 t23 t24 t25 t26 t27 t28 t29 t30 t31 t32 t33 t34 t35 t36 t37 t38 t39 t40 t41 t42 t43 t44 t45 t46 t47 t48 t49 t50 t51 t52 t53 t54 t55 t56 t57 t58 t59 t60 t61 t62 t63 t64 t65 t66 t67 t68 t69 t70 t71 t72 t73 t74 t75 t76 t77 t78 t79 t80 t81 t82 t83 t84 t85 t86 t87 t88 t89 t90 t91 t92 t93 t94 t95 t96 t97 t98 t99 t100 t101 t102 t103 t104 t105 t106 t107 t108 t109 t110 t111 t112 t113 t114 t115 t116 t117 t118 t119 t120 t121 t122 t123 t124 t125 t126 t127 t128 t129 t130 t131 t132 t133 t134 t135 t136 t137 t138 t139 t140 t141 t142 t143 t144 t145 t146 t147 t148 t149 t150 t151 t152 t153 t154 t155 t156 t157 t158 t159 t160 t161 t162 t163 t164 t165 t166 t167 t168 t169 t170 t171 t172 t173 t174 t175 t176 t177 t178 t179 t180 t181 t182 t183 t184 t185 t186 t187 t188 t189 t190 t191 t192 t193 t194 t195 t196 t197 t198 t199 t200 t201 t202 t203 t204 t205 t206 t207 t208 t209 t210 t211 t212 t213 t214 t215 t216 t217 t218 t219 t220 t221 t222 t223 t224 t225 t226 t227 t228 t229 t230 t231 t232 t233 t234 t235 t236 t237 t238 t239 t240 t241 t242 t243 t244 t245 t246 t247 t248 t249 t250 t251 t252 t253 t254 t255 t256 t257 t258 t259 t260 t261 t262 t263 t264 t265 t266 t267 t268 t269 t270 t271 t272 t273 t274 t275 t276 t277 t278 t279 t280 t281 t282 t283 t284 t285 t286 t287 t288 t289 t290 t291 t292 t293 t294 t295 t296 t297 t298 t299 t300 t301 t302 t303 t304 t305 t306 t307 t308 t309 t310 t311 t312 t313 t314 t315 t316 t317 t318 t319 t320 t321 t322 t323 t324 t325 t326 t327 t328 t329 t330 t331 t332 t333 : Value}
    (hJ : ∀ a' w', (∃ (u266 u267 u268 u269 u270 u271 : Value), ∃ g : Nat, K4Out w N2 n c' P L q pa3 la2 pc3 lc2 g w' ∧ a' = ⟨#[t0, t1, .pointer (some ⟨N, 0, none⟩), .pointer (some ⟨N1, 0, none⟩), .pointer (some ⟨N2, 0, none⟩), .slice (some ⟨g, 0, none⟩) 1 1, .int .i64 0, .pointer (some ⟨N3, 0, none⟩), .pointer (some ⟨X, 0, none⟩), .slice (some ⟨tb, 0, none⟩) 0 0, t10, t11, t12, t13, t14, t15, t16, t17, t18, t19, t20, t21, t22, t23, t24, t25, t26, t27, t28, t29, t30, t31, t32, t33, t34, t35, t36, t37, t38, t39, t40, t41, t42, t43, t44, t45, t46, t47, t48, t49, t50, t51, t52, t53, t54, t55, t56, t57, t58, t59, t60, t61, t62, t63, t64, t65, t66, t67, t68, t69, t70, t71, t72, t73, t74, t75, t76, t77, t78, t79, t80, t81, t82, t83, t84, t85, t86, t87, t88, t89, t90, t91, t92, t93, t94, t95, t96, t97, t98, t99, t100, t101, t102, t103, t104, t105, t106, t107, t108, t109, t110, t111, t112, t113, t114, t115, t116, t117, t118, t119, t120, t121, t122, t123, t124, t125, t126, t127, t128, t129, t130, t131, t132, t133, t134, t135, t136, t137, t138, t139, t140, t141, t142, t143, t144, t145, t146, t147, t148, t149, t150, t151, t152, t153, t154, t155, t156, t157, t158, t159, t160, t161, t162, t163, t164, t165, t166, t167, t168, t169, t170, t171, t172, t173, t174, t175, t176, t177, t178, t179, t180, t181, t182, t183, t184, t185, t186, t187, t188, t189, t190, t191, t192, t193, t194, t195, t196, t197, t198, t199, t200, t201, t202, t203, t204, t205, t206, t207, t208, t209, t210, t211, t212, t213, t214, t215, t216, t217, t218, t219, t220, t221, t222, t223, t224, t225, t226, t227, t228, t229, t230, t231, t232, t233, t234, t235, t236, t237, t238, t239, t240, t241, t242, t243, t244, t245, t246, t247, t248, t249, t250, t251, t252, t253, t254, t255, t256, t257, t258, t259, t260, t261, t262, t263, t264, t265, u266, u267, u268, u269, u270, u271, t272, t273, t274, t275, t276, t277, t278, t279, t280, t281, t282, t283, t284, t285, t286, t287, t288, t289, t290, t291, t292, t293, t294, t295, t296, t297, t298, t299, t300, t301, t302, t303, t304, t305, t306, t307, t308, t309, t310, t311, t312, t313, t314, t315, t316, t317, t318, t319, t320, t321, t322, t323, t324, t325, t326, t327, t328, t329, t330, t331, t332, t333], []⟩) → J a' w') :
    Code.wp Tryz.prog c (Exit.then J (Exit.inBlock 0 (Exit.then K (bodyPost Tryz.prog Tryz.f10 Po)))) ⟨#[t0, t1, .pointer (some ⟨N, 0, none⟩), .pointer (some ⟨N1, 0, none⟩), .pointer (some ⟨N2, 0, none⟩), t5, t6, .pointer (some ⟨N3, 0, none⟩), .pointer (some ⟨X, 0, none⟩), .slice (some ⟨tb, 0, none⟩) 0 0, t10, t11, t12, t13, t14, t15, t16, t17, t18, t19, t20, t21, t22, t23, t24, t25, t26, t27, t28, t29, t30, t31, t32, t33, t34, t35, t36, t37, t38, t39, t40, t41, t42, t43, t44, t45, t46, t47, t48, t49, t50, t51, t52, t53, t54, t55, t56, t57, t58, t59, t60, t61, t62, t63, t64, t65, t66, t67, t68, t69, t70, t71, t72, t73, t74, t75, t76, t77, t78, t79, t80, t81, t82, t83, t84, t85, t86, t87, t88, t89, t90, t91, t92, t93, t94, t95, t96, t97, t98, t99, t100, t101, t102, t103, t104, t105, t106, t107, t108, t109, t110, t111, t112, t113, t114, t115, t116, t117, t118, t119, t120, t121, t122, t123, t124, t125, t126, t127, t128, t129, t130, t131, t132, t133, t134, t135, t136, t137, t138, t139, t140, t141, t142, t143, t144, t145, t146, t147, t148, t149, t150, t151, t152, t153, t154, t155, t156, t157, t158, t159, t160, t161, t162, t163, t164, t165, t166, t167, t168, t169, t170, t171, t172, t173, t174, t175, t176, t177, t178, t179, t180, t181, t182, t183, t184, t185, t186, t187, t188, t189, t190, t191, t192, t193, t194, t195, t196, t197, t198, t199, t200, t201, t202, t203, t204, t205, t206, t207, t208, t209, t210, t211, t212, t213, t214, t215, t216, t217, t218, t219, t220, t221, t222, t223, t224, t225, t226, t227, t228, t229, t230, t231, t232, t233, t234, t235, t236, t237, t238, t239, t240, t241, t242, t243, t244, t245, t246, t247, t248, t249, t250, t251, t252, t253, t254, t255, t256, t257, t258, t259, t260, t261, t262, t263, t264, t265, t266, t267, t268, t269, t270, t271, t272, t273, t274, t275, t276, t277, t278, t279, t280, t281, t282, t283, t284, t285, t286, t287, t288, t289, t290, t291, t292, t293, t294, t295, t296, t297, t298, t299, t300, t301, t302, t303, t304, t305, t306, t307, t308, t309, t310, t311, t312, t313, t314, t315, t316, t317, t318, t319, t320, t321, t322, t323, t324, t325, t326, t327, t328, t329, t330, t331, t332, t333], []⟩ W := by
  obtain rfl := Option.some.inj ((rfl : Tryz.f10.body.bind (subR 55) = some _).symm.trans hc)
  have HJ := Lib.hid hJ
  clear hc hJ
  dsimp only
  obtain ⟨-, ⟨r0, r1, r2, r3⟩, ⟨f0, f1, f2, f3⟩⟩ := hF.zeros
  have hln : (P ++ [q]).length = P.length + 1 := by simp
  have b := hPO.blk
  simp only [hln] at b
  have o0 := cells_of b 0 _ rfl
  have o1 := cells_of b 1 _ rfl
  have o2' := cells_of b 2 _ rfl
  have o3 := cells_of b 3 _ rfl
  have q1 : IntKind.i64.wrap (((P.length + 1 : Nat) : Int) - 1) = (P.length : Int) := by rw [IntWalk.i64_in _ (by omega)]; omega
  have q2 : IntKind.i64.wrap (P.length : Int) = (P.length : Int) := IntWalk.i64_in _ (by omega)
  have HP3 := Lib.hid (And.intro hPO hF)
  have hal := fun o => (hF.below (below_alloc W o)).zeros
  have ra0 := fun o => (hal o).2.1.1
  have ra1 := fun o => (hal o).2.1.2.1
  have ra2 := fun o => (hal o).2.1.2.2.1
  have ra3 := fun o => (hal o).2.1.2.2.2
  have fa0 := fun o => (hal o).2.2.1
  have fa1 := fun o => (hal o).2.2.2.1
  have fa2 := fun o => (hal o).2.2.2.2.1
  have fa3 := fun o => (hal o).2.2.2.2.2
  have hXl3 := hPO.lt
  obtain ⟨l1, l2, l3, l4, l5, l6⟩ := hF.lt
  have hlow := hPO.low
  clear hPO hF b hln hal
  go_region
  all_goals
    refine HJ.out _ _ ?_
    repeat apply Exists.intro
    refine ⟨?_, rfl⟩
    first
      | with_reducible exact k4_A HP3.out.1 HP3.out.2
      | with_reducible exact k4_B HP3.out.1 HP3.out.2
end Go.Proofs.YtjkobbmdemooaaaGreatDoor
