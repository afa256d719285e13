/- The reference's Apply of layer 12: a node boots. -/
import Derived.Test.YtjkobbmdemooaaaGreatDoorPx29
import Derived.Test.YtjkobbmdemooaaaGreatDoorPx27
import Derived.Test.YtjkobbmdemooaaaGreatDoorPx36
import Derived.Test.YtjkobbmdemooaaaGreatDoorPx22
import Derived.BigQuiet
namespace Go.Proofs.YtjkobbmdemooaaaGreatDoor
open Go.RowKit

/-- One life read by the reference's boot. -/
def bStep (x : Int × Int) (s : List (Int × Int) × Bool) (y : Int × Int) : List (Int × Int) × Bool :=
  let s1 := if s.2 = false ∧ x.1 ≤ y.1 then (s.1 ++ [x], true) else s
  if y.1 = x.1 then s1 else (s1.1 ++ [y], s1.2)
def bAll (L : List (Int × Int)) (x : Int × Int) : List (Int × Int) :=
  let s := L.foldl (bStep x) ([], false)
  if s.2 then s.1 else s.1 ++ [x]

theorem bStep_lt {x : Int × Int} {l : List (Int × Int)} (a : List (Int × Int)) (h : ∀ y ∈ l, y.1 < x.1) : l.foldl (bStep x) (a, false) = (a ++ l, false) := by
  induction l generalizing a with
  | nil => simp
  | cons y l ih =>
    have hy := h y (List.mem_cons_self ..)
    rw [List.foldl_cons]
    have e : bStep x (a, false) y = (a ++ [y], false) := by
      have h1 : ¬ x.1 ≤ y.1 := by omega
      have h2 : ¬ y.1 = x.1 := by omega
      simp [bStep, h1, h2]
    rw [e, ih _ (fun z hz => h z (List.mem_cons_of_mem _ hz))]
    simp
theorem bStep_gt {x : Int × Int} {l : List (Int × Int)} (a : List (Int × Int)) (h : ∀ y ∈ l, x.1 < y.1) : l.foldl (bStep x) (a, true) = (a ++ l, true) := by
  induction l generalizing a with
  | nil => simp
  | cons y l ih =>
    have hy := h y (List.mem_cons_self ..)
    rw [List.foldl_cons]
    have e : bStep x (a, true) y = (a ++ [y], true) := by
      have h2 : ¬ y.1 = x.1 := by omega
      simp [bStep, h2]
    rw [e, ih _ (fun z hz => h z (List.mem_cons_of_mem _ hz))]
    simp
theorem bAll_boot {L : List (Int × Int)} (hr : Rising L) (x : Int × Int) : bAll L x = bootL L x := by
  obtain ⟨A, B, e, hA, hB, -, -, h2⟩ := bootL_form hr x
  rw [e]
  unfold bAll
  rcases h2 with rfl | ⟨z, rfl, hz⟩
  · rw [List.foldl_append, bStep_lt [] hA]
    cases B with
    | nil => simp
    | cons y B =>
      have hy := hB y (List.mem_cons_self ..)
      have e2 : bStep x ([] ++ A, false) y = (A ++ [x] ++ [y], true) := by
        have h1 : x.1 ≤ y.1 := by omega
        have h2 : ¬ y.1 = x.1 := by omega
        simp [bStep, h1, h2]
      rw [List.foldl_cons, e2, bStep_gt _ (fun z hz => hB z (List.mem_cons_of_mem _ hz))]
      simp
  · rw [List.foldl_append, bStep_lt [] hA, List.foldl_cons]
    have e2 : bStep x ([] ++ A, false) z = (A ++ [x], true) := by
      simp [bStep, hz]
    rw [e2, bStep_gt _ hB]
    simp
theorem bStep_len (x : Int × Int) (s : List (Int × Int) × Bool) (y : Int × Int) : (bStep x s y).1.length ≤ s.1.length + 2 := by
  unfold bStep
  simp only
  split <;> split <;> simp
theorem foldB_succ (x : Int × Int) (L : List (Int × Int)) (k : Nat) (hk : k < L.length) : (L.take (k + 1)).foldl (bStep x) ([], false) = bStep x ((L.take k).foldl (bStep x) ([], false)) L[k] := by
  rw [List.take_succ_eq_append_getElem hk, List.foldl_append]
  rfl

/-- The row of lives that is being built. -/
def LivB (M0 : Nat) (w0 wr : World) (aa : Option Addr) (ac : Nat) (acc : List (Int × Int)) : Prop :=
  wr.ownsRow M0 81 2 (.slice aa acc.length ac) acc.length (lifeCells acc) ∧ Below M0 w0 wr ∧ M0 ≤ wr.heap.size

theorem LivB.push {M0 : Nat} {w0 wr w8 : World} {aa : Option Addr} {ac : Nat} {acc : List (Int × Int)} {o : Obj} {g cap : Nat} (h : LivB M0 w0 wr aa ac acc) (x : Int × Int)
    (hown : w8.ownsRow M0 81 2 (.slice (some ⟨g, 0, none⟩) (acc.length + 1) cap) (acc.length + 1) (lifeCells acc ++ [.int .i64 x.1, .int .i64 x.2])) (hgrow : (wr.alloc o).grownBy w8 (Value.slice aa acc.length ac).ownBlock) :
    LivB M0 w0 w8 (some ⟨g, 0, none⟩) cap (acc ++ [x]) := by
  obtain ⟨h1, h2, h3⟩ := h
  have hu := (upd_alloc (fun k => some k = (Value.slice aa acc.length ac).ownBlock) wr o).trans (upd_grown hgrow)
  have hl : (acc ++ [x]).length = acc.length + 1 := by simp
  have hc : lifeCells (acc ++ [x]) = lifeCells acc ++ [.int .i64 x.1, .int .i64 x.2] := by simp [lifeCells]
  refine ⟨by rw [hl, hc]; exact hown, h2.trans (hu.toBelow h3 (fun k e => (owns_lt h1 k e.symm).1)), by have := hu.size; omega⟩

theorem Tn.setLives {w : World} {N pb : Nat} {p : Pl} {t : List Int} {pa : Option Addr} {pc : Nat} {la la' : Option Addr} {lc lc' : Nat} {m : List (Value × Pt)} {tv : Value} (h : Tn w N pb p t pa pc la lc m tv) {L : List (Int × Int)}
    (hl : w.ownsRow N 81 2 (.slice la' L.length lc') L.length (lifeCells L)) : Tn (w.setCell ⟨pb, 3, none⟩ (.slice la' L.length lc')) N pb ⟨p.nodes, p.copies, p.parts, L⟩ t pa pc la' lc' m tv := by
  refine ⟨h.own.setLives (Upd.refl (fun _ => False) w) (fun _ e => e.elim) hl, ?_, h.far⟩
  refine owns_upd h.tur (upd_set1 w pb 3 _) (fun q hq e => ?_)
  subst e
  obtain ⟨c, hc⟩ := owns_block h.tur q hq
  have := h.own.blk
  rw [hc] at this
  simp at this

theorem holds_a {y : Pt} {n : Int} (h : y.chain.contains n = true) : Value.bool true = Value.bool (holdsB n y) := by
  unfold holdsB
  rw [h, Bool.or_true]
theorem holds_b {y : Pt} {n : Int} (h : y.chain.contains n = false) : Value.bool (decide (y.learner = n)) = Value.bool (holdsB n y) := by
  unfold holdsB
  rw [h, Bool.or_false]

set_option maxRecDepth 100000 in
set_option maxHeartbeats 8000000 in
theorem ra_k1 {c : Code} (hc : Tryz.f10.body.bind (subC 48) = some c) {w W : World} {N N1 N2 N3 B X tb : Nat} {p : Pl} {pa la : Option Addr} {pc lc : Nat} {x : Event} (hF : Fx w W N N1 N2 N3 B p pa la pc lc x)
    {pa2 la2 : Option Addr} {pc2 lc2 : Nat} {m2 : List (Value × Pt)} (hT : Tn W B X p [] pa2 pc2 la2 lc2 m2 (.slice (some ⟨tb, 0, none⟩) 0 0)) (hcan : canB p x = true) (hk : x.kind = 1) {q0 : Pl} {T : List Int} {e0 : Int} (hC : changeP p x = (q0, T, e0))
    {K : Act → World → Prop} {Po : Ending → World → Prop} {t0 t1 t5 t6 t10 t11 t12 t13 t14 t15 t16 t17 t18 t19 t20 t21 t22 t23 t24 t25 t26 t27 t28 t29 t30 t31 t32 t33 t34 t35 t36 t37 t38 t39 t40 t41 t42 t43 t44 t45 t46 t47 t48 t49 t50 t51 t52 t53 t54 t55 t56 t57 t58 t59 t60 t61 t62 t63 t64 t65 t66 t67 t68 t69 t70 t71 t72 t73 t74 t75 t76 t77 t78 t79 t80 t81 t82 t83 t84 t85 t86 t87 t88 t89 t90 t91 t92 t93 t94 t95 t96 t97 t98 t99 t100 t101 t102 t103 t104 t105 t106 t107 t108 t109 t110 t111 t112 t113 t114 t115 t116 t117 t118 t119 t120 t121 t122 t123 t124 t125 t126 t127 t128 t129 t130 t131 t132 t133 t134 t135 t136 t137 t138 t139 t140 t141 t142 t143 t144 t145 t146 t147 t148 t149 t150 t151 t152 t153 t154 t155 t156 t157 t158 t159 t160 t161 t162 t163 t164 t165 t166 t167 t168 t169 t170 t171 t172 t173 t174 t175 t176 t177 t178 t179 t180 t181 t182 t183 t184 t185 t186 t187 t188 t189 t190 t191 t192 t193 t194 t195 t196 t197 t198 t199 t200 t201 t202 t203 t204 t205 t206 t207 t208 t209 t210 t211 t212 t213 t214 t215 t216 t217 t218 t219 t220 t221 t222 t223 t224 t225 t226 t227 t228 t229 t230 t231 t232 t233 t234 t235 t236 t237 t238 t239 t240 t241 t242 t243 t244 t245 t246 t247 t248 t249 t250 t251 t252 t253 t254 t255 t256 t257 t258 t259 t260 t261 t262 t263 t264 t265 t266 t267 t268 t269 t270 t271 t272 t273 t274 t275 t276 t277 t278 t279 t280 t281 t282 t283 t284 t285 t286 t287 t288 t289 t290 t291 t292 t293 t294 t295 t296 t297 t298 t299 t300 t301 t302 t303 t304 t305 t306 t307 t308 t309 t310 t311 t312 t313 t314 t315 t316 t317 t318 t319 t320 t321 t322 t323 t324 t325 t326 t327 t328 t329 t330 t331 t332 t333 : Value}
    (hN : ∀ a' w', (∃ (u5 u6 u10 u11 u12 u13 u50 u51 u52 u53 u54 u55 u56 u57 u58 u59 u60 u61 u62 u63 u64 u65 u66 u67 u68 u69 u70 u71 u72 u73 u74 u75 u76 u77 u78 u79 u80 u81 u82 u83 u84 u85 u86 u87 u88 u89 u90 u91 u92 u93 u94 u95 u96 u97 u98 u99 u100 u101 u102 u103 u104 u105 u106 u107 u108 u109 u110 u111 u112 u113 u114 u115 u116 u117 u118 u119 u120 u121 u122 u123 u124 u125 u126 u127 u128 u129 u130 u131 u132 u133 u134 u135 u136 u137 u138 u139 u140 u141 u142 u143 u144 u145 u146 : Value), ∃ (pa3 la3 ta : Option Addr) (pc3 lc3 tc : Nat) (m3 : List (Value × Pt)), (e0 = 0 ∧ Tn w' B X q0 T pa3 pc3 la3 lc3 m3 (.slice ta T.length tc) ∧ Fx w w' N N1 N2 N3 B p pa la pc lc x) ∧ a' = ⟨#[t0, t1, .pointer (some ⟨N, 0, none⟩), .pointer (some ⟨N1, 0, none⟩), .pointer (some ⟨N2, 0, none⟩), u5, u6, .pointer (some ⟨N3, 0, none⟩), .pointer (some ⟨X, 0, none⟩), .slice ta T.length tc, u10, u11, u12, u13, t14, t15, t16, t17, t18, t19, t20, t21, t22, t23, t24, t25, t26, t27, t28, t29, t30, t31, t32, t33, t34, t35, t36, t37, t38, t39, t40, t41, t42, t43, t44, t45, t46, t47, t48, t49, u50, u51, u52, u53, u54, u55, u56, u57, u58, u59, u60, u61, u62, u63, u64, u65, u66, u67, u68, u69, u70, u71, u72, u73, u74, u75, u76, u77, u78, u79, u80, u81, u82, u83, u84, u85, u86, u87, u88, u89, u90, u91, u92, u93, u94, u95, u96, u97, u98, u99, u100, u101, u102, u103, u104, u105, u106, u107, u108, u109, u110, u111, u112, u113, u114, u115, u116, u117, u118, u119, u120, u121, u122, u123, u124, u125, u126, u127, u128, u129, u130, u131, u132, u133, u134, u135, u136, u137, u138, u139, u140, u141, u142, u143, u144, u145, u146, t147, t148, t149, t150, t151, t152, t153, t154, t155, t156, t157, t158, t159, t160, t161, t162, t163, t164, t165, t166, t167, t168, t169, t170, t171, t172, t173, t174, t175, t176, t177, t178, t179, t180, t181, t182, t183, t184, t185, t186, t187, t188, t189, t190, t191, t192, t193, t194, t195, t196, t197, t198, t199, t200, t201, t202, t203, t204, t205, t206, t207, t208, t209, t210, t211, t212, t213, t214, t215, t216, t217, t218, t219, t220, t221, t222, t223, t224, t225, t226, t227, t228, t229, t230, t231, t232, t233, t234, t235, t236, t237, t238, t239, t240, t241, t242, t243, t244, t245, t246, t247, t248, t249, t250, t251, t252, t253, t254, t255, t256, t257, t258, t259, t260, t261, t262, t263, t264, t265, t266, t267, t268, t269, t270, t271, t272, t273, t274, t275, t276, t277, t278, t279, t280, t281, t282, t283, t284, t285, t286, t287, t288, t289, t290, t291, t292, t293, t294, t295, t296, t297, t298, t299, t300, t301, t302, t303, t304, t305, t306, t307, t308, t309, t310, t311, t312, t313, t314, t315, t316, t317, t318, t319, t320, t321, t322, t323, t324, t325, t326, t327, t328, t329, t330, t331, t332, t333], []⟩) → K a' w')
    (hR : ∀ a' w', (∃ (u9 u10 u11 u12 u13 u50 u51 u52 u53 u54 u55 u56 u57 u58 u59 u60 u61 u62 u63 u64 u65 u66 u67 u68 u69 u70 u71 u72 u73 u74 u75 u76 u77 u78 u79 u80 u81 u82 u83 u84 u85 u86 u87 u88 u89 u90 u91 u92 u93 u94 u95 u96 u97 u98 u99 u100 u101 u102 u103 u104 u105 u106 u107 u108 u109 u110 u111 u112 u113 u114 u115 u116 u117 u118 u119 u120 u121 u122 u123 u124 u125 u126 u127 u128 u129 u130 u131 u132 u133 u134 u135 u136 u137 u138 u139 u140 u141 u142 u143 u144 u145 u146 : Value), (e0 ≠ 0 ∧ Zd w w' N2) ∧ a' = ⟨#[t0, t1, .pointer (some ⟨N, 0, none⟩), .pointer (some ⟨N1, 0, none⟩), .pointer (some ⟨N2, 0, none⟩), .slice none 0 0, .int .i64 e0, .pointer (some ⟨N3, 0, none⟩), .pointer (some ⟨X, 0, none⟩), u9, u10, u11, u12, u13, t14, t15, t16, t17, t18, t19, t20, t21, t22, t23, t24, t25, t26, t27, t28, t29, t30, t31, t32, t33, t34, t35, t36, t37, t38, t39, t40, t41, t42, t43, t44, t45, t46, t47, t48, t49, u50, u51, u52, u53, u54, u55, u56, u57, u58, u59, u60, u61, u62, u63, u64, u65, u66, u67, u68, u69, u70, u71, u72, u73, u74, u75, u76, u77, u78, u79, u80, u81, u82, u83, u84, u85, u86, u87, u88, u89, u90, u91, u92, u93, u94, u95, u96, u97, u98, u99, u100, u101, u102, u103, u104, u105, u106, u107, u108, u109, u110, u111, u112, u113, u114, u115, u116, u117, u118, u119, u120, u121, u122, u123, u124, u125, u126, u127, u128, u129, u130, u131, u132, u133, u134, u135, u136, u137, u138, u139, u140, u141, u142, u143, u144, u145, u146, t147, t148, t149, t150, t151, t152, t153, t154, t155, t156, t157, t158, t159, t160, t161, t162, t163, t164, t165, t166, t167, t168, t169, t170, t171, t172, t173, t174, t175, t176, t177, t178, t179, t180, t181, t182, t183, t184, t185, t186, t187, t188, t189, t190, t191, t192, t193, t194, t195, t196, t197, t198, t199, t200, t201, t202, t203, t204, t205, t206, t207, t208, t209, t210, t211, t212, t213, t214, t215, t216, t217, t218, t219, t220, t221, t222, t223, t224, t225, t226, t227, t228, t229, t230, t231, t232, t233, t234, t235, t236, t237, t238, t239, t240, t241, t242, t243, t244, t245, t246, t247, t248, t249, t250, t251, t252, t253, t254, t255, t256, t257, t258, t259, t260, t261, t262, t263, t264, t265, t266, t267, t268, t269, t270, t271, t272, t273, t274, t275, t276, t277, t278, t279, t280, t281, t282, t283, t284, t285, t286, t287, t288, t289, t290, t291, t292, t293, t294, t295, t296, t297, t298, t299, t300, t301, t302, t303, t304, t305, t306, t307, t308, t309, t310, t311, t312, t313, t314, t315, t316, t317, t318, t319, t320, t321, t322, t323, t324, t325, t326, t327, t328, t329, t330, t331, t332, t333], []⟩) → bodyPost Tryz.prog Tryz.f10 Po .ret a' w') : Code.wp Tryz.prog c (Exit.inBlock 0 (Exit.then K (bodyPost Tryz.prog Tryz.f10 Po))) ⟨#[t0, t1, .pointer (some ⟨N, 0, none⟩), .pointer (some ⟨N1, 0, none⟩), .pointer (some ⟨N2, 0, none⟩), t5, t6, .pointer (some ⟨N3, 0, none⟩), .pointer (some ⟨X, 0, none⟩), .slice (some ⟨tb, 0, none⟩) 0 0, t10, t11, t12, t13, t14, t15, t16, t17, t18, t19, t20, t21, t22, t23, t24, t25, t26, t27, t28, t29, t30, t31, t32, t33, t34, t35, t36, t37, t38, t39, t40, t41, t42, t43, t44, t45, t46, t47, t48, t49, t50, t51, t52, t53, t54, t55, t56, t57, t58, t59, t60, t61, t62, t63, t64, t65, t66, t67, t68, t69, t70, t71, t72, t73, t74, t75, t76, t77, t78, t79, t80, t81, t82, t83, t84, t85, t86, t87, t88, t89, t90, t91, t92, t93, t94, t95, t96, t97, t98, t99, t100, t101, t102, t103, t104, t105, t106, t107, t108, t109, t110, t111, t112, t113, t114, t115, t116, t117, t118, t119, t120, t121, t122, t123, t124, t125, t126, t127, t128, t129, t130, t131, t132, t133, t134, t135, t136, t137, t138, t139, t140, t141, t142, t143, t144, t145, t146, t147, t148, t149, t150, t151, t152, t153, t154, t155, t156, t157, t158, t159, t160, t161, t162, t163, t164, t165, t166, t167, t168, t169, t170, t171, t172, t173, t174, t175, t176, t177, t178, t179, t180, t181, t182, t183, t184, t185, t186, t187, t188, t189, t190, t191, t192, t193, t194, t195, t196, t197, t198, t199, t200, t201, t202, t203, t204, t205, t206, t207, t208, t209, t210, t211, t212, t213, t214, t215, t216, t217, t218, t219, t220, t221, t222, t223, t224, t225, t226, t227, t228, t229, t230, t231, t232, t233, t234, t235, t236, t237, t238, t239, t240, t241, t242, t243, t244, t245, t246, t247, t248, t249, t250, t251, t252, t253, t254, t255, t256, t257, t258, t259, t260, t261, t262, t263, t264, t265, t266, t267, t268, t269, t270, t271, t272, t273, t274, t275, t276, t277, t278, t279, t280, t281, t282, t283, t284, t285, t286, t287, t288, t289, t290, t291, t292, t293, t294, t295, t296, t297, t298, t299, t300, t301, t302, t303, t304, t305, t306, t307, t308, t309, t310, t311, t312, t313, t314, t315, t316, t317, t318, t319, t320, t321, t322, t323, t324, t325, t326, t327, t328, t329, t330, t331, t332, t333], []⟩ W := by
  obtain rfl := Option.some.inj ((rfl : Tryz.f10.body.bind (subC 48) = some _).symm.trans hc)
  have HN := Lib.hid hN
  have HR := Lib.hid hR
  clear hc hN hR
  dsimp only
  obtain ⟨xk, xn, xp, xc⟩ := x
  simp only at hk
  obtain ⟨hg, -, -, -⟩ := canB_iff.1 hcan
  have hsm := small_of_good hg
  have hpos : 0 < p.parts.length := by have := (goodP_iff.1 hg).2.2.1; omega
  obtain ⟨g, rfl⟩ := hT.own.ptr hpos
  obtain ⟨i1, ki, kz0, kz1, kz2⟩ := info_parts info_Int
  obtain ⟨j1, ji, jz0, jz1, jz2⟩ := info_parts info_Life
  obtain ⟨lf, hlf⟩ : ∃ lf, lifeP p.lives xn = lf := ⟨_, rfl⟩
  have hCv : changeP p ⟨xk, xn, xp, xc⟩ = if xc ≤ lf then (p, [], 21) else (⟨p.nodes, p.copies, p.parts, bAll p.lives (xn, xc)⟩, placesB (holdsB xn) p.parts, 0) := by
    rw [bAll_boot (goodP_iff.1 hg).2.2.2.2.2, ← hlf]
    unfold changeP
    simp only
    rw [if_pos hk]
  rw [hC] at hCv
  have hl4 : p.parts.length ≤ 4 := by have := (goodP_iff.1 hg).2.2.1; omega
  have hll : p.lives.length ≤ 5 := hsm.2.2
  have hlc : ∀ W', Below W.heap.size W W' → Calls Tryz.prog 18 #[planV p pa pc la lc, .int .i64 xn] W' fun e w' => e = .returned (.int .i64 lf) ∧ Below W.heap.size W w' := by
    intro W' hb
    refine (R12Life_any (hF.below hb).rd xn).mono ?_
    rintro e w' ⟨rfl, h⟩
    exact ⟨by rw [hlf], hb.trans (h.mono hb.size)⟩
  have hkeep := fun W' (hb : Below W.heap.size W W') => (hF.below hb).cells
  have HLC := Lib.hid hlc
  have HK := Lib.hid hkeep
  have HCV := Lib.hid hCv
  have HSM := Lib.hid hsm.2.1
  have HF := Lib.hid hF
  have HT := Lib.hid hT
  obtain ⟨⟨d0, d1, d2, d3⟩, ⟨y0, y1, y2, y3⟩⟩ := hF.cells
  obtain ⟨l1, l2, l3, l4, l5, l6⟩ := hF.lt
  clear hC hCv hcan hg hsm hF hT hkeep hlc hlf
  go_upto_region 8 with fail
  go_cut [56] from 50 to 146 (fun v wx => v = .bool (decide (xc ≤ lf)) ∧ Below W.heap.size W wx)
  case first =>
    refine wp_region_belowP W.heap.size (by kernel_rfl) (by kernel_rfl) ?_
    iterate 7 (first
      | go_big_quiet_skip
      | (go_big_quiet_want; rename_i K hK
         unfold Oper.quiet
         apply Exists.intro
         refine ⟨fun w' hw' => ?_, hK _ ?_⟩
         · obtain ⟨⟨d0, d1, d2, d3⟩, ⟨y0, y1, y2, y3⟩⟩ := HK.out w' hw'
           unfold Oper.quietAt
           go_simp
           first
             | with_reducible rfl
             | with_reducible exact HLC.out w' hw'
         clear hK K
         simp only [Act.put, List.setIfInBounds_toArray, List.set_cons_zero, List.set_cons_succ]))
    refine wpQuiet_nil ?_
    intro w2 hw2
    go_wp2
    go_meet
    exact ⟨rfl, hw2⟩
  case rest =>
  obtain ⟨rfl, hbx⟩ := hcut
  obtain ⟨W0, hW0⟩ : ∃ W0, W0 = wc := ⟨_, rfl⟩
  subst hW0
  have hF := HF.out.below hbx
  have hTx := HT.out.below hbx
  clear d0 d1 d2 d3 y0 y1 y2 y3 HK HLC HF HT
  by_cases hlo : xc ≤ lf
  · have he : e0 = 21 := by
      have h := HCV.out
      rw [if_pos hlo] at h
      simp only [Prod.mk.injEq] at h
      exact h.2.2
    subst he
    rw [decide_eq_true hlo]
    obtain ⟨⟨z0, z1, z2, z3⟩, ⟨r0, r1, r2, r3⟩, ⟨f0, f1, f2, f3⟩⟩ := hF.zeros
    have HZ := Lib.hid hF.zd
    clear hF hTx hbx
    go_wp2
    refine HR.out _ _ ?_
    repeat apply Exists.intro
    exact ⟨⟨by decide, HZ.out⟩, rfl⟩
  rw [decide_eq_false hlo]
  have hE : (q0, T, e0) = ((⟨p.nodes, p.copies, p.parts, bAll p.lives (xn, xc)⟩ : Pl), placesB (holdsB xn) p.parts, (0 : Int)) := by
    have h := HCV.out
    rw [if_neg hlo] at h
    exact h
  simp only [Prod.mk.injEq] at hE
  obtain ⟨rfl, rfl, rfl⟩ := hE
  have hkeep : ∀ W', Below W0.heap.size W0 W' → Fx w W' N N1 N2 N3 B p pa la pc lc ⟨xk, xn, xp, xc⟩ ∧ Tn W' B X p [] (some ⟨g, 0, none⟩) pc2 la2 lc2 m2 (.slice (some ⟨tb, 0, none⟩) 0 0) := fun W' hb => ⟨hF.below hb, hTx.below hb⟩
  have hlR : ∃ hl : LivesRd w (.slice la p.lives.length lc) p.lives, True := by
    obtain ⟨pv, lv, e, -, hl⟩ := hF.rd0
    simp only [planV, Value.agg.injEq, Array.mk.injEq, List.cons.injEq, and_true, true_and] at e
    obtain ⟨-, rfl⟩ := e
    exact ⟨hl, trivial⟩
  obtain ⟨hlR, -⟩ := hlR
  obtain ⟨la', lc', e, -, hlm, hL⟩ := hlR.cells
  simp only [Value.slice.injEq, true_and] at e
  obtain ⟨rfl, rfl⟩ := e
  have hM0B : B ≤ W0.heap.size := hF.lt.2.2.2.2.2
  have hw0 : Below w.heap.size w W0 := hF.bel
  obtain ⟨M0, hM0⟩ : ∃ M0, W0.heap.size = M0 := ⟨_, rfl⟩
  rw [hM0] at hkeep hM0B
  have HKE := Lib.hid hkeep
  have HL := Lib.hid hL
  have HW0 := Lib.hid hw0
  have HM0 := Lib.hid hM0
  have hliv : LivB M0 W0 (W0.alloc (.cells #[] 81)) (some ⟨W0.heap.size, 0, none⟩) 0 [] := by
    have hmade := World.ownsRow_made (e := 81) (size := 2) (base := W0.heap.size) W0 #[] 0 (Nat.le_refl _) (Nat.zero_le _) rfl
    rw [← hM0]
    exact ⟨hmade, below_alloc _ _, by simp⟩
  have HLIV := Lib.hid hliv
  clear hF hTx hbx hlo HCV hkeep hlR hL hw0 hliv
  have hl5 : B ≤ M0 := hM0B
  go_wp2
  go_loopg [10, 11, 12] p.lives.length (fun gk v10 v11 i wr => ∃ (k : Nat) (aa : Option Addr) (ac : Nat) (acc : List (Int × Int)) (done : Bool), k ≤ p.lives.length ∧ gk = p.lives.length - k ∧ i = .int .i64 k ∧ v10 = .slice aa acc.length ac ∧ v11 = .bool done ∧
    (p.lives.take k).foldl (bStep (xn, xc)) ([], false) = (acc, done) ∧ acc.length ≤ 2 * k ∧ LivB M0 W0 wr aa ac acc)
  case atStart => exact ⟨0, some ⟨M0, 0, none⟩, 0, [], false, Nat.zero_le _, rfl, rfl, rfl, rfl, rfl, Nat.zero_le _, by have := HLIV.out; rwa [HM0.out] at this⟩
  case round =>
    obtain ⟨k, aa, ac, acc, done, hk2, rfl, rfl, rfl, rfl, hfold, hacl, hlv⟩ := hrel
    clear HLIV
    obtain ⟨hF, -⟩ := HKE.out wr hlv.2.1
    obtain ⟨⟨d0, d1, d2, d3⟩, ⟨y0, y1, y2, y3⟩⟩ := hF.cells
    have hMr := hlv.2.2
    by_cases hlt : k < p.lives.length
    · obtain ⟨b, off, rfl, hb, c0, c1⟩ := HL.out k hlt
      have hst := foldB_succ (xn, xc) p.lives k hlt
      rw [hfold] at hst
      obtain ⟨y, hy⟩ : ∃ y, p.lives[k] = y := ⟨_, rfl⟩
      rw [hy] at c0 c1 hst
      obtain ⟨yn, yc⟩ := y
      simp only at c0 c1
      have hC0 : ∀ W', Below M0 W0 W' → W'.cell? ⟨b, off + k * 2, none⟩ = some (.int .i64 yn) ∧ W'.cell? ⟨b, off + k * 2 + 1, none⟩ = some (.int .i64 yc) ∧ W'.cell? ⟨N, 3, none⟩ = some (.slice (some ⟨b, off, none⟩) p.lives.length lc) ∧ W'.cell? ⟨N1, 1, none⟩ = some (.int .i64 xn) ∧ W'.cell? ⟨N1, 3, none⟩ = some (.int .i64 xc) := by
        intro W' hb'
        obtain ⟨hF', -⟩ := HKE.out W' hb'
        obtain ⟨⟨-, -, -, d3⟩, ⟨-, y1, -, y3⟩⟩ := hF'.cells
        exact ⟨below_some hF'.bel c0 hb, below_some hF'.bel c1 hb, d3, y1, y3⟩
      have HC0 := Lib.hid hC0
      obtain ⟨e0', e1, -, -, -⟩ := hC0 wr hlv.2.1
      have i2 : (0 : Int) ≤ (k : Int) := by omega
      have i3 : (k : Int) < (p.lives.length : Int) := by omega
      have HST := Lib.hid hst
      have HLV := Lib.hid hlv
      clear hF hC0 hst hlv hfold hy c0 c1
      go_upto_region 15 with fail
      clear d0 d1 d2 y0 y2
      go_cut [78] from 59 to 103 (fun v wx => v = .bool (!done && decide (xn ≤ yn)) ∧ LivB M0 W0 wx aa ac acc)
      case first =>
        cases done
        · by_cases hle : xn ≤ yn
          · have hd : decide (xn ≤ yn) = true := decide_eq_true hle
            go_wp2
            go_quiet (fail)
            go_wp2
            go_meet
            exact ⟨by rw [hd]; rfl, HLV.out.1, below_drewN HLV.out.2.1 _, HLV.out.2.2⟩
          · have hd : decide (xn ≤ yn) = false := decide_eq_false hle
            go_wp2
            go_quiet (fail)
            go_wp2
            go_meet
            exact ⟨by rw [hd]; rfl, HLV.out.1, below_drewN HLV.out.2.1 _, HLV.out.2.2⟩
        · go_wp2
          go_quiet (fail)
          go_wp2
          go_meet
          exact ⟨rfl, HLV.out.1, below_drewN HLV.out.2.1 _, HLV.out.2.2⟩
      case rest =>
      obtain ⟨rfl, hlv⟩ := hcut
      clear HLV d3 y1 y3 e0' e1 hMr
      obtain ⟨e0', e1, d3, y1, y3⟩ := HC0.out wc hlv.2.1
      have hMr := hlv.2.2
      have HLV := Lib.hid hlv
      clear hlv
      obtain ⟨bt, hbt⟩ : ∃ bt, (!done && decide (xn ≤ yn)) = bt := ⟨_, rfl⟩
      rw [hbt]
      have HBT := Lib.hid hbt
      clear hbt
      cases bt
      · have hst3 : (p.lives.take (k + 1)).foldl (bStep (xn, xc)) ([], false) = if yn = xn then (acc, done) else (acc ++ [(yn, yc)], done) := by
          rw [HST.out]
          have h := HBT.out
          simp only [Bool.and_eq_false_iff, Bool.not_eq_false', decide_eq_false_iff_not] at h
          have h2 : ¬ (done = false ∧ xn ≤ yn) := by
            rintro ⟨rfl, h3⟩
            rcases h with h | h
            · simp at h
            · exact h h3
          unfold bStep
          simp only
          rw [if_neg h2]
        have HST3 := Lib.hid hst3
        clear hst3 HST HBT
        go_upto_region 18 with fail
        go_cut [95] from 59 to 103 (fun v wx => v = .bool (!decide (yn = xn)) ∧ LivB M0 W0 wx aa ac acc)
        case first =>
          by_cases he : yn = xn
          · subst he
            go_wp2
            go_quiet (fail)
            go_wp2
            go_meet
            exact ⟨by simp, HLV.out.1, below_drewN HLV.out.2.1 _, HLV.out.2.2⟩
          · go_wp2
            go_quiet (fail)
            go_wp2
            go_meet
            exact ⟨by simp [he], HLV.out.1, below_drewN HLV.out.2.1 _, HLV.out.2.2⟩
        case rest =>
        obtain ⟨rfl, hlv⟩ := hcut
        clear HLV d3 y1 y3 e0' e1 hMr
        obtain ⟨e0', e1, d3, y1, y3⟩ := HC0.out wc hlv.2.1
        have hMr := hlv.2.2
        have HLV := Lib.hid hlv
        clear hlv
        by_cases he : yn = xn
        · have hd : (!decide (yn = xn)) = false := by simp [he]
          rw [hd]
          clear hd
          go_wp2
          go_roundg (p.lives.length - (k + 1))
          case measure => omega
          case rel =>
            refine ⟨k + 1, aa, ac, acc, done, by omega, rfl, by go_num, rfl, rfl, ?_, by omega, HLV.out⟩
            have h := HST3.out
            rw [if_pos he] at h
            exact h
        · have hd : (!decide (yn = xn)) = true := by simp [he]
          rw [hd]
          clear hd
          go_wp2_with (first | (at_builtin; refine wpList_append_lies _ rfl _ _ 23 rfl M0 81 j1 _ 2 16 und_Lives ji jz0 jz1 jz2 rfl (by decide) (.slice aa acc.length ac) acc.length (lifeCells acc) rfl (HLV.out.1.alloc _) ⟨wc.heap.size, 0, none⟩ 1 1 [.int .i64 yn, .int .i64 yc] rfl rfl (World.news_of_block (cs := #[.int .i64 yn, .int .i64 yc]) (t := 81) (fr := (0, 0)) (heap_alloc_new wc _)) (by simp [Value.oneCell']) (by decide) ?_ ?_ ?_ _ rfl ?_; (unfold maxLen; omega); (omega); (simp only [World.size_alloc]; omega); intro g9 cap9 w8 hown8 hgrow8 hat8 hlt8; have H9 := Lib.hid (HLV.out.push (yn, yc) hown8 hgrow8); clear hown8 hgrow8 hat8 hlt8))
          go_roundg (p.lives.length - (k + 1))
          case measure => omega
          case rel =>
            refine ⟨k + 1, some ⟨g9, 0, none⟩, cap9, acc ++ [(yn, yc)], done, by omega, rfl, by go_num, by simp, rfl, ?_, by simp; omega, H9.out⟩
            have h := HST3.out
            rw [if_neg he] at h
            exact h
      · have hst3 : (p.lives.take (k + 1)).foldl (bStep (xn, xc)) ([], false) = if yn = xn then (acc ++ [(xn, xc)], true) else (acc ++ [(xn, xc)] ++ [(yn, yc)], true) := by
          rw [HST.out]
          have h := HBT.out
          simp only [Bool.and_eq_true, Bool.not_eq_true', decide_eq_true_eq] at h
          unfold bStep
          simp only
          rw [if_pos h]
        have HST3 := Lib.hid hst3
        clear hst3 HST HBT
        go_upto_region 18 with (first | (at_builtin; refine wpList_append_lies _ rfl _ _ 23 rfl M0 81 j1 _ 2 16 und_Lives ji jz0 jz1 jz2 rfl (by decide) (.slice aa acc.length ac) acc.length (lifeCells acc) rfl (HLV.out.1.alloc _) ⟨wc.heap.size, 0, none⟩ 1 1 [.int .i64 xn, .int .i64 xc] rfl rfl (World.news_of_block (cs := #[.int .i64 xn, .int .i64 xc]) (t := 81) (fr := (0, 0)) (heap_alloc_new wc _)) (by simp [Value.oneCell']) (by decide) ?_ ?_ ?_ _ rfl ?_; (unfold maxLen; omega); (omega); (simp only [World.size_alloc]; omega); intro g8 cap8 w8 hown8 hgrow8 hat8 hlt8; have H8 := Lib.hid (HLV.out.push (xn, xc) hown8 hgrow8); clear hown8 hgrow8 hat8 hlt8))
        clear HLV d3 y1 y3 e0' e1 hMr
        obtain ⟨acc1, hacc1⟩ : ∃ acc1, acc ++ [(xn, xc)] = acc1 := ⟨_, rfl⟩
        have hlen : acc.length + 1 = acc1.length := by rw [← hacc1]; simp
        rw [hlen]
        have HLV := H8
        rw [hacc1] at HLV HST3
        clear H8 hacc1
        obtain ⟨e0', e1, d3, y1, y3⟩ := HC0.out w8 HLV.out.2.1
        have hMr := HLV.out.2.2
        go_cut [95] from 59 to 103 (fun v wx => v = .bool (!decide (yn = xn)) ∧ LivB M0 W0 wx (some ⟨g8, 0, none⟩) cap8 acc1)
        case first =>
          by_cases he : yn = xn
          · subst he
            go_wp2
            go_quiet (fail)
            go_wp2
            go_meet
            exact ⟨by simp, HLV.out.1, below_drewN HLV.out.2.1 _, HLV.out.2.2⟩
          · go_wp2
            go_quiet (fail)
            go_wp2
            go_meet
            exact ⟨by simp [he], HLV.out.1, below_drewN HLV.out.2.1 _, HLV.out.2.2⟩
        case rest =>
        obtain ⟨rfl, hlv⟩ := hcut
        clear HLV d3 y1 y3 e0' e1 hMr
        obtain ⟨e0', e1, d3, y1, y3⟩ := HC0.out wc hlv.2.1
        have hMr := hlv.2.2
        have HLV := Lib.hid hlv
        clear hlv
        by_cases he : yn = xn
        · have hd : (!decide (yn = xn)) = false := by simp [he]
          rw [hd]
          clear hd
          go_wp2
          go_roundg (p.lives.length - (k + 1))
          case measure => omega
          case rel =>
            refine ⟨k + 1, (some ⟨g8, 0, none⟩), cap8, acc1, true, by omega, rfl, by go_num, rfl, rfl, ?_, by omega, HLV.out⟩
            have h := HST3.out
            rw [if_pos he] at h
            exact h
        · have hd : (!decide (yn = xn)) = true := by simp [he]
          rw [hd]
          clear hd
          go_wp2_with (first | (at_builtin; refine wpList_append_lies _ rfl _ _ 23 rfl M0 81 j1 _ 2 16 und_Lives ji jz0 jz1 jz2 rfl (by decide) (.slice (some ⟨g8, 0, none⟩) acc1.length cap8) acc1.length (lifeCells acc1) rfl (HLV.out.1.alloc _) ⟨wc.heap.size, 0, none⟩ 1 1 [.int .i64 yn, .int .i64 yc] rfl rfl (World.news_of_block (cs := #[.int .i64 yn, .int .i64 yc]) (t := 81) (fr := (0, 0)) (heap_alloc_new wc _)) (by simp [Value.oneCell']) (by decide) ?_ ?_ ?_ _ rfl ?_; (unfold maxLen; omega); (omega); (simp only [World.size_alloc]; omega); intro g9 cap9 w8 hown8 hgrow8 hat8 hlt8; have H9 := Lib.hid (HLV.out.push (yn, yc) hown8 hgrow8); clear hown8 hgrow8 hat8 hlt8))
          go_roundg (p.lives.length - (k + 1))
          case measure => omega
          case rel =>
            refine ⟨k + 1, some ⟨g9, 0, none⟩, cap9, acc1 ++ [(yn, yc)], true, by omega, rfl, by go_num, by simp, rfl, ?_, by simp; omega, H9.out⟩
            have h := HST3.out
            rw [if_neg he] at h
            exact h
    · have hkk : k = p.lives.length := by omega
      subst hkk
      rw [List.take_length] at hfold
      have HLV := Lib.hid hlv
      obtain ⟨BL, hBL⟩ : ∃ BL, bAll p.lives (xn, xc) = BL := ⟨_, rfl⟩
      rw [hBL] at HN
      have hb2 : BL = if done then acc else acc ++ [(xn, xc)] := by rw [← hBL]; unfold bAll; simp only [hfold]
      have HB2 := Lib.hid hb2
      clear hF hlv hfold hb2 hBL
      go_upto_region 20 with fail
      cases done
      · simp only [Bool.false_eq_true, if_false] at HB2
        go_upto_region 22 with (first | (at_builtin; refine wpList_append_lies _ rfl _ _ 23 rfl M0 81 j1 _ 2 16 und_Lives ji jz0 jz1 jz2 rfl (by decide) (.slice aa acc.length ac) acc.length (lifeCells acc) rfl (HLV.out.1.alloc _) ⟨wr.heap.size, 0, none⟩ 1 1 [.int .i64 xn, .int .i64 xc] rfl rfl (World.news_of_block (cs := #[.int .i64 xn, .int .i64 xc]) (t := 81) (fr := (0, 0)) (heap_alloc_new wr _)) (by simp [Value.oneCell']) (by decide) ?_ ?_ ?_ _ rfl ?_; (unfold maxLen; omega); (omega); (simp only [World.size_alloc]; omega); intro g8 cap8 w8 hown8 hgrow8 hat8 hlt8; have H8 := Lib.hid (HLV.out.push (xn, xc) hown8 hgrow8); clear hown8 hgrow8 hat8 hlt8))
        clear HLV d0 d1 d2 d3 y0 y1 y2 y3 hMr
        have hlen : acc.length + 1 = BL.length := by rw [HB2.out]; simp
        rw [hlen]
        have HLV := H8
        rw [← HB2.out] at HLV
        clear H8 HB2
        obtain ⟨hF, hT⟩ := HKE.out w8 HLV.out.2.1
        have hlB := owns_mono HLV.out.1 hl5
        have hT3 := hT.setLives hlB
        have hlowX := hT.own.low
        have hF3 := hF.upd (upd_set1 w8 X 3 (.slice (some ⟨g8, 0, none⟩) BL.length cap8)) (fun q e => by omega)
        have x3 := cells_of hT.own.blk 3 _ rfl
        have xf3 : w8.frozen? ⟨X, 3, none⟩ = false := frozen_of hT.own.blk
        obtain ⟨wd, hwd⟩ : ∃ wd, wd = w8.setCell ⟨X, 3, none⟩ (.slice (some ⟨g8, 0, none⟩) BL.length cap8) := ⟨_, rfl⟩
        rw [← hwd] at hT3 hF3
        have HT3 := Lib.hid hT3
        have HF3 := Lib.hid hF3
        clear hF hT hlB hT3 hF3
        go_upto_region 23 with fail
        rw [← hwd]
        clear x3 xf3 hwd
        go_wp2
        go_loopg [9, 13] p.parts.length (fun gk out i wr => ∃ (k : Nat) (ta : Option Addr) (tc : Nat), k ≤ p.parts.length ∧ gk = p.parts.length - k ∧ i = .int .i64 k ∧ out = .slice ta (placesB (holdsB xn) (p.parts.take k)).length tc ∧
          Tn wr B X ⟨p.nodes, p.copies, p.parts, BL⟩ (placesB (holdsB xn) (p.parts.take k)) (some ⟨g, 0, none⟩) pc2 (some ⟨g8, 0, none⟩) cap8 m2 (.slice ta (placesB (holdsB xn) (p.parts.take k)).length tc) ∧ Fx w wr N N1 N2 N3 B p pa la pc lc ⟨xk, xn, xp, xc⟩)
        case atStart => exact ⟨0, some ⟨tb, 0, none⟩, 0, Nat.zero_le _, rfl, rfl, rfl, HT3.out, HF3.out⟩
        case round =>
          clear HF3 HT3
          obtain ⟨k, ta, tc, hkl, rfl, rfl, rfl, hT, hF⟩ := hrel
          obtain ⟨T0, hT0⟩ : ∃ T0, placesB (holdsB xn) (p.parts.take k) = T0 := ⟨_, rfl⟩
          simp only [hT0] at hT ⊢
          have HPB := Lib.hid hT0
          have hT0l : T0.length ≤ 4 := by rw [← hT0]; exact Nat.le_trans (placesB_length _ _) (by simp; omega)
          have hc2 := cells_of hT.own.blk 2 _ rfl
          simp only at hc2
          by_cases hlt : k < p.parts.length
          · obtain ⟨hkm, ca, cc, -, e0', e1, e2, fg, hcn, hgp, hgl, hgN⟩ := hT.own.place k hlt
            simp only at e0' e1 e2 hcn
            have hch5 := HSM.out _ (List.getElem_mem hlt)
            have hno : holdsB xn p.parts[k] = false → placesB (holdsB xn) (p.parts.take (k + 1)) = T0 := fun h => by rw [placesB_succ _ p.parts k hlt, h, hT0]; simp
            have hye : holdsB xn p.parts[k] = true → placesB (holdsB xn) (p.parts.take (k + 1)) = T0 ++ [(k : Int)] := fun h => by rw [placesB_succ _ p.parts k hlt, h, hT0]; simp
            obtain ⟨y, hy⟩ : ∃ y, p.parts[k] = y := ⟨_, rfl⟩
            rw [hy] at e0' e1 e2 hcn hch5 hno hye
            have hrd := IntsRd.of_owns hcn
            have hha := @holds_a y xn
            have hhb := @holds_b y xn
            obtain ⟨hb, hhold⟩ : ∃ hb, holdsB xn y = hb := ⟨_, rfl⟩
            rw [hhold] at hha hhb hno hye
            obtain ⟨ep, ch, le⟩ := y
            simp only at e0' e1 e2 hcn hch5 hrd hha hhb
            have i2 : (0 : Int) ≤ (k : Int) := by omega
            have i3 : (k : Int) < (p.parts.length : Int) := by omega
            have hcal : ∀ n, Calls Tryz.prog 43 #[.slice ca ch.length cc, .int .i64 xn] (wr.drewN n) fun e w' => e = .returned (.bool (ch.contains xn)) ∧ w' = wr.drewN n := fun n => has_any (hrd.below (below_drewN (Below.refl _ _) n)) xn
            obtain ⟨⟨d0, d1, d2, d3⟩, ⟨y0, y1, y2, y3⟩⟩ := hF.cells
            have hlow1 := hF.lt.2.2.2.2.2
            have hcut0 : ∀ n, Tn (wr.drewN n) B X ⟨p.nodes, p.copies, p.parts, BL⟩ T0 (some ⟨g, 0, none⟩) pc2 (some ⟨g8, 0, none⟩) cap8 m2 (.slice ta T0.length tc) ∧ Fx w (wr.drewN n) N N1 N2 N3 B p pa la pc lc ⟨xk, xn, xp, xc⟩ := fun n => ⟨hT.below (below_drewN (Below.refl _ _) n), hF.below (below_drewN (Below.refl _ _) n)⟩
            have HCUT := Lib.hid hcut0
            have HNO := Lib.hid hno
            have HYE := Lib.hid hye
            have HHA := Lib.hid hha
            have HHB := Lib.hid hhb
            clear hF hT hT0 hno hye hy hrd hha hhb hhold hcn fg hcut0
            go_upto_region 26 with fail
            go_cut [142] from 116 to 146 (fun v wx => v = .bool hb ∧ Tn wx B X ⟨p.nodes, p.copies, p.parts, BL⟩ T0 (some ⟨g, 0, none⟩) pc2 (some ⟨g8, 0, none⟩) cap8 m2 (.slice ta T0.length tc) ∧ Fx w wx N N1 N2 N3 B p pa la pc lc ⟨xk, xn, xp, xc⟩)
            case first =>
              obtain ⟨b1, hb1⟩ : ∃ b1, ch.contains xn = b1 := ⟨_, rfl⟩
              rw [hb1] at hcal
              have HB1 := Lib.hid hb1
              clear hb1
              cases b1
              · go_wp2
                go_quiet ((go_at_call 43; with_reducible exact Calls.quiet_of_same (hcal _)))
                go_wp2
                go_meet
                exact ⟨HHB.out HB1.out, HCUT.out _⟩
              · go_wp2
                go_quiet ((go_at_call 43; with_reducible exact Calls.quiet_of_same (hcal _)))
                go_wp2
                go_meet
                exact ⟨HHA.out HB1.out, HCUT.out _⟩
            case rest =>
            obtain ⟨rfl, hT, hF⟩ := hcut
            have H3 := Lib.hid (And.intro hT hF)
            have hlow2 := hF.lt.2.2.2.2.2
            clear hT hF hcal HCUT hc2 e0' e1 e2 d0 d1 d2 d3 y0 y1 y2 y3
            cases hb
            · go_wp2
              go_roundg (p.parts.length - (k + 1))
              case measure => omega
              case rel =>
                have hNO := HNO.out (by trivial)
                refine ⟨k + 1, ta, tc, by omega, rfl, by go_num, ?_, ?_, H3.out.2⟩
                · rw [hNO]
                · rw [hNO]; exact H3.out.1
            · go_wp2_with (first | (at_builtin; refine wpList_append_lies _ rfl _ _ 32 rfl B 3 i1 _ 1 8 und_Ints ki kz0 kz1 kz2 rfl (by decide) (.slice ta T0.length tc) T0.length (intCells T0) rfl (H3.out.1.tur.alloc _) ⟨wc.heap.size, 0, none⟩ 1 1 [.int .i64 k] rfl rfl (World.news_of_block (cs := #[.int .i64 k]) (t := 3) (fr := (0, 0)) (heap_alloc_new wc _)) (by simp [Value.oneCell']) (by decide) ?_ ?_ ?_ _ rfl ?_; (unfold maxLen; omega); (omega); (simp only [World.size_alloc]; omega); intro g7 cap7 w7 hown7 hgrow7 hat7 hlt7; have H7 := Lib.hid (H3.out.1.push1 (i := (k : Int)) hown7 hgrow7 hat7); clear hown7 hgrow7 hat7 hlt7))
              go_roundg (p.parts.length - (k + 1))
              case measure => omega
              case rel =>
                have hYES := HYE.out (by trivial)
                refine ⟨k + 1, some ⟨g7, 0, none⟩, cap7, by omega, rfl, by go_num, ?_, ?_, H3.out.2.upd H7.out.2 (fun q hq => (owns_lt H3.out.1.tur q hq.symm).1)⟩
                · rw [hYES]; simp
                · rw [hYES]; exact H7.out.1
          · have hkk : k = p.parts.length := by omega
            subst hkk
            have hT0f : placesB (holdsB xn) p.parts = T0 := by have := HPB.out; rwa [List.take_length] at this
            rw [hT0f] at HN
            have H3 := Lib.hid (And.intro hT hF)
            clear hF hT hT0
            go_wp2
            refine HN.out _ _ ?_
            repeat apply Exists.intro
            exact ⟨⟨by trivial, H3.out.1, H3.out.2⟩, rfl⟩
      · simp only [if_true] at HB2
        have hb3 := HB2.out
        subst hb3
        go_upto_region 22 with fail
        clear d0 d1 d2 d3 y0 y1 y2 y3 hMr
        obtain ⟨hF, hT⟩ := HKE.out wr HLV.out.2.1
        have hlB := owns_mono HLV.out.1 hl5
        have hT3 := hT.setLives hlB
        have hlowX := hT.own.low
        have hF3 := hF.upd (upd_set1 wr X 3 (.slice aa BL.length ac)) (fun q e => by omega)
        have x3 := cells_of hT.own.blk 3 _ rfl
        have xf3 : wr.frozen? ⟨X, 3, none⟩ = false := frozen_of hT.own.blk
        obtain ⟨wd, hwd⟩ : ∃ wd, wd = wr.setCell ⟨X, 3, none⟩ (.slice aa BL.length ac) := ⟨_, rfl⟩
        rw [← hwd] at hT3 hF3
        have HT3 := Lib.hid hT3
        have HF3 := Lib.hid hF3
        clear hF hT hlB hT3 hF3
        go_upto_region 23 with fail
        rw [← hwd]
        clear x3 xf3 hwd
        go_wp2
        go_loopg [9, 13] p.parts.length (fun gk out i wr => ∃ (k : Nat) (ta : Option Addr) (tc : Nat), k ≤ p.parts.length ∧ gk = p.parts.length - k ∧ i = .int .i64 k ∧ out = .slice ta (placesB (holdsB xn) (p.parts.take k)).length tc ∧
          Tn wr B X ⟨p.nodes, p.copies, p.parts, BL⟩ (placesB (holdsB xn) (p.parts.take k)) (some ⟨g, 0, none⟩) pc2 aa ac m2 (.slice ta (placesB (holdsB xn) (p.parts.take k)).length tc) ∧ Fx w wr N N1 N2 N3 B p pa la pc lc ⟨xk, xn, xp, xc⟩)
        case atStart => exact ⟨0, some ⟨tb, 0, none⟩, 0, Nat.zero_le _, rfl, rfl, rfl, HT3.out, HF3.out⟩
        case round =>
          clear HF3 HT3
          obtain ⟨k, ta, tc, hkl, rfl, rfl, rfl, hT, hF⟩ := hrel
          obtain ⟨T0, hT0⟩ : ∃ T0, placesB (holdsB xn) (p.parts.take k) = T0 := ⟨_, rfl⟩
          simp only [hT0] at hT ⊢
          have HPB := Lib.hid hT0
          have hT0l : T0.length ≤ 4 := by rw [← hT0]; exact Nat.le_trans (placesB_length _ _) (by simp; omega)
          have hc2 := cells_of hT.own.blk 2 _ rfl
          simp only at hc2
          by_cases hlt : k < p.parts.length
          · obtain ⟨hkm, ca, cc, -, e0', e1, e2, fg, hcn, hgp, hgl, hgN⟩ := hT.own.place k hlt
            simp only at e0' e1 e2 hcn
            have hch5 := HSM.out _ (List.getElem_mem hlt)
            have hno : holdsB xn p.parts[k] = false → placesB (holdsB xn) (p.parts.take (k + 1)) = T0 := fun h => by rw [placesB_succ _ p.parts k hlt, h, hT0]; simp
            have hye : holdsB xn p.parts[k] = true → placesB (holdsB xn) (p.parts.take (k + 1)) = T0 ++ [(k : Int)] := fun h => by rw [placesB_succ _ p.parts k hlt, h, hT0]; simp
            obtain ⟨y, hy⟩ : ∃ y, p.parts[k] = y := ⟨_, rfl⟩
            rw [hy] at e0' e1 e2 hcn hch5 hno hye
            have hrd := IntsRd.of_owns hcn
            have hha := @holds_a y xn
            have hhb := @holds_b y xn
            obtain ⟨hb, hhold⟩ : ∃ hb, holdsB xn y = hb := ⟨_, rfl⟩
            rw [hhold] at hha hhb hno hye
            obtain ⟨ep, ch, le⟩ := y
            simp only at e0' e1 e2 hcn hch5 hrd hha hhb
            have i2 : (0 : Int) ≤ (k : Int) := by omega
            have i3 : (k : Int) < (p.parts.length : Int) := by omega
            have hcal : ∀ n, Calls Tryz.prog 43 #[.slice ca ch.length cc, .int .i64 xn] (wr.drewN n) fun e w' => e = .returned (.bool (ch.contains xn)) ∧ w' = wr.drewN n := fun n => has_any (hrd.below (below_drewN (Below.refl _ _) n)) xn
            obtain ⟨⟨d0, d1, d2, d3⟩, ⟨y0, y1, y2, y3⟩⟩ := hF.cells
            have hlow1 := hF.lt.2.2.2.2.2
            have hcut0 : ∀ n, Tn (wr.drewN n) B X ⟨p.nodes, p.copies, p.parts, BL⟩ T0 (some ⟨g, 0, none⟩) pc2 aa ac m2 (.slice ta T0.length tc) ∧ Fx w (wr.drewN n) N N1 N2 N3 B p pa la pc lc ⟨xk, xn, xp, xc⟩ := fun n => ⟨hT.below (below_drewN (Below.refl _ _) n), hF.below (below_drewN (Below.refl _ _) n)⟩
            have HCUT := Lib.hid hcut0
            have HNO := Lib.hid hno
            have HYE := Lib.hid hye
            have HHA := Lib.hid hha
            have HHB := Lib.hid hhb
            clear hF hT hT0 hno hye hy hrd hha hhb hhold hcn fg hcut0
            go_upto_region 26 with fail
            go_cut [142] from 116 to 146 (fun v wx => v = .bool hb ∧ Tn wx B X ⟨p.nodes, p.copies, p.parts, BL⟩ T0 (some ⟨g, 0, none⟩) pc2 aa ac m2 (.slice ta T0.length tc) ∧ Fx w wx N N1 N2 N3 B p pa la pc lc ⟨xk, xn, xp, xc⟩)
            case first =>
              obtain ⟨b1, hb1⟩ : ∃ b1, ch.contains xn = b1 := ⟨_, rfl⟩
              rw [hb1] at hcal
              have HB1 := Lib.hid hb1
              clear hb1
              cases b1
              · go_wp2
                go_quiet ((go_at_call 43; with_reducible exact Calls.quiet_of_same (hcal _)))
                go_wp2
                go_meet
                exact ⟨HHB.out HB1.out, HCUT.out _⟩
              · go_wp2
                go_quiet ((go_at_call 43; with_reducible exact Calls.quiet_of_same (hcal _)))
                go_wp2
                go_meet
                exact ⟨HHA.out HB1.out, HCUT.out _⟩
            case rest =>
            obtain ⟨rfl, hT, hF⟩ := hcut
            have H3 := Lib.hid (And.intro hT hF)
            have hlow2 := hF.lt.2.2.2.2.2
            clear hT hF hcal HCUT hc2 e0' e1 e2 d0 d1 d2 d3 y0 y1 y2 y3
            cases hb
            · go_wp2
              go_roundg (p.parts.length - (k + 1))
              case measure => omega
              case rel =>
                have hNO := HNO.out (by trivial)
                refine ⟨k + 1, ta, tc, by omega, rfl, by go_num, ?_, ?_, H3.out.2⟩
                · rw [hNO]
                · rw [hNO]; exact H3.out.1
            · go_wp2_with (first | (at_builtin; refine wpList_append_lies _ rfl _ _ 32 rfl B 3 i1 _ 1 8 und_Ints ki kz0 kz1 kz2 rfl (by decide) (.slice ta T0.length tc) T0.length (intCells T0) rfl (H3.out.1.tur.alloc _) ⟨wc.heap.size, 0, none⟩ 1 1 [.int .i64 k] rfl rfl (World.news_of_block (cs := #[.int .i64 k]) (t := 3) (fr := (0, 0)) (heap_alloc_new wc _)) (by simp [Value.oneCell']) (by decide) ?_ ?_ ?_ _ rfl ?_; (unfold maxLen; omega); (omega); (simp only [World.size_alloc]; omega); intro g7 cap7 w7 hown7 hgrow7 hat7 hlt7; have H7 := Lib.hid (H3.out.1.push1 (i := (k : Int)) hown7 hgrow7 hat7); clear hown7 hgrow7 hat7 hlt7))
              go_roundg (p.parts.length - (k + 1))
              case measure => omega
              case rel =>
                have hYES := HYE.out (by trivial)
                refine ⟨k + 1, some ⟨g7, 0, none⟩, cap7, by omega, rfl, by go_num, ?_, ?_, H3.out.2.upd H7.out.2 (fun q hq => (owns_lt H3.out.1.tur q hq.symm).1)⟩
                · rw [hYES]; simp
                · rw [hYES]; exact H7.out.1
          · have hkk : k = p.parts.length := by omega
            subst hkk
            have hT0f : placesB (holdsB xn) p.parts = T0 := by have := HPB.out; rwa [List.take_length] at this
            rw [hT0f] at HN
            have H3 := Lib.hid (And.intro hT hF)
            clear hF hT hT0
            go_wp2
            refine HN.out _ _ ?_
            repeat apply Exists.intro
            exact ⟨⟨by trivial, H3.out.1, H3.out.2⟩, rfl⟩
end Go.Proofs.YtjkobbmdemooaaaGreatDoor
