/- Parts of a function's text, taken out by their numbers. -/
/- The reference's Apply of layer 12, its last piece: the epochs rise, what is answered. -/
import Derived.Test.YtjkobbmdemooaaaGreatDoorProg
import Derived.Test.YtjkobbmdemooaaaGreatDoorPx29
import Derived.Test.YtjkobbmdemooaaaGreatDoorPx34
import Derived.Test.YtjkobbmdemooaaaGreatDoorPx35
namespace Go.Proofs.YtjkobbmdemooaaaGreatDoor

/-- The region of this number in a function's text. -/
def subR (n : Nat) : Code → Option Code
  | .region i o d => if i = n then some (.region i o d) else none
  | .seq a b => match subR n a with
    | some c => some c
    | none => subR n b
  | .cond _ a b => match subR n a with
    | some c => some c
    | none => subR n b
  | .block _ b => subR n b
  | .loop b => subR n b
  | _ => none
/-- The block of this number. -/
def subB (n : Nat) : Code → Option Code
  | .seq a b => match subB n a with
    | some c => some c
    | none => subB n b
  | .cond _ a b => match subB n a with
    | some c => some c
    | none => subB n b
  | .block i b => if i = n then some (.block i b) else subB n b
  | .loop b => subB n b
  | _ => none
/-- The branch of the test on this slot: what is done if it holds. -/
def subC (n : Nat) : Code → Option Code
  | .seq a b => match subC n a with
    | some c => some c
    | none => subC n b
  | .cond (.tmp k) a b => if k = n then some a else match subC n a with
    | some c => some c
    | none => subC n b
  | .cond _ a b => match subC n a with
    | some c => some c
    | none => subC n b
  | .block _ b => subC n b
  | .loop b => subC n b
  | _ => none
end Go.Proofs.YtjkobbmdemooaaaGreatDoor
namespace Go.Proofs.YtjkobbmdemooaaaGreatDoor
open Go.RowKit

set_option maxRecDepth 100000 in
set_option maxHeartbeats 8000000 in
theorem ra_b7 {c : Code} (hc : Tryz.f10.body.bind (subB 7) = some c) {w W : World} {N N1 N2 N3 B X : Nat} {p : Pl} {pa la : Option Addr} {pc lc : Nat} {x : Event} (hF : Fx w W N N1 N2 N3 B p pa la pc lc x)
    {q0 : Pl} {T : List Int} {pa2 la2 ta : Option Addr} {pc2 lc2 tc : Nat} {m2 : List (Value × Pt)} (hT : Tn W B X q0 T pa2 pc2 la2 lc2 m2 (.slice ta T.length tc)) (hep : EpOk q0.parts) (hT2 : ∀ i ∈ T, 0 ≤ i ∧ i < (q0.parts.length : Int))
    {K : Act → World → Prop} {Po : Ending → World → Prop} {t0 t1 t5 t6 t10 t11 t12 t13 t14 t15 t16 t18 t19 t20 t21 t22 t23 t24 t25 t26 t27 t28 t29 t30 t31 t32 t33 t34 t35 t36 t37 t38 t39 t40 t41 t42 t43 t44 t45 t46 t47 t48 t49 t50 t51 t52 t53 t54 t55 t56 t57 t58 t59 t60 t61 t62 t63 t64 t65 t66 t67 t68 t69 t70 t71 t72 t73 t74 t75 t76 t77 t78 t79 t80 t81 t82 t83 t84 t85 t86 t87 t88 t89 t90 t91 t92 t93 t94 t95 t96 t97 t98 t99 t100 t101 t102 t103 t104 t105 t106 t107 t108 t109 t110 t111 t112 t113 t114 t115 t116 t117 t118 t119 t120 t121 t122 t123 t124 t125 t126 t127 t128 t129 t130 t131 t132 t133 t134 t135 t136 t137 t138 t139 t140 t141 t142 t143 t144 t145 t146 t147 t148 t149 t150 t151 t152 t153 t154 t155 t156 t157 t158 t159 t160 t161 t162 t163 t164 t165 t166 t167 t168 t169 t170 t171 t172 t173 t174 t175 t176 t177 t178 t179 t180 t181 t182 t183 t184 t185 t186 t187 t188 t189 t190 t191 t192 t193 t194 t195 t196 t197 t198 t199 t200 t201 t202 t203 t204 t205 t206 t207 t208 t209 t210 t211 t212 t213 t214 t215 t216 t217 t218 t219 t220 t221 t222 t223 t224 t225 t226 t227 t228 t229 t230 t231 t232 t233 t234 t235 t236 t237 t238 t239 t240 t241 t242 t243 t244 t245 t246 t247 t248 t249 t250 t251 t252 t253 t254 t255 t256 t257 t258 t259 t260 t261 t262 t263 t264 t265 t266 t267 t268 t269 t270 t271 t272 t273 t274 t275 t276 t277 t278 t279 t280 t281 t282 t283 t284 t285 t286 t287 t288 t289 t290 t291 t292 t293 t294 t295 t296 t297 t298 t299 t300 t301 t302 t303 t304 t305 t306 t307 t308 t309 t310 t311 t312 t313 t314 t315 t316 t317 t318 t319 t320 t321 t322 t323 t324 t325 t326 t327 t328 t329 t330 t331 t332 t333 : Value}
    (hN : ∀ a' w', (∃ (u5 u6 u17 u303 u304 u305 u306 u307 u308 u309 u310 u311 u312 u313 u314 u315 u316 u317 u318 u319 u320 u321 u322 u323 u324 u325 u326 u327 u328 u329 u330 u331 : Value), ∃ (Q : List Pt) (m : List (Value × Pt)), (PlanOwn w' B X ⟨q0.nodes, q0.copies, Q, q0.lives⟩ pa2 pc2 la2 lc2 m ∧ bumpP q0.parts T = some Q ∧ Fx w w' N N1 N2 N3 B p pa la pc lc x ∧
      ∀ W2, Upd (fun j => j = N2) w' W2 → PlanFrom W2 w.heap.size (planV ⟨q0.nodes, q0.copies, Q, q0.lives⟩ pa2 pc2 la2 lc2) ⟨q0.nodes, q0.copies, Q, q0.lives⟩ ∧ TurnRd W2 (.slice ta T.length tc) T) ∧ a' = ⟨#[t0, t1, .pointer (some ⟨N, 0, none⟩), .pointer (some ⟨N1, 0, none⟩), .pointer (some ⟨N2, 0, none⟩), u5, u6, .pointer (some ⟨N3, 0, none⟩), .pointer (some ⟨X, 0, none⟩), .slice ta T.length tc, t10, t11, t12, t13, t14, t15, t16, u17, t18, t19, t20, t21, t22, t23, t24, t25, t26, t27, t28, t29, t30, t31, t32, t33, t34, t35, t36, t37, t38, t39, t40, t41, t42, t43, t44, t45, t46, t47, t48, t49, t50, t51, t52, t53, t54, t55, t56, t57, t58, t59, t60, t61, t62, t63, t64, t65, t66, t67, t68, t69, t70, t71, t72, t73, t74, t75, t76, t77, t78, t79, t80, t81, t82, t83, t84, t85, t86, t87, t88, t89, t90, t91, t92, t93, t94, t95, t96, t97, t98, t99, t100, t101, t102, t103, t104, t105, t106, t107, t108, t109, t110, t111, t112, t113, t114, t115, t116, t117, t118, t119, t120, t121, t122, t123, t124, t125, t126, t127, t128, t129, t130, t131, t132, t133, t134, t135, t136, t137, t138, t139, t140, t141, t142, t143, t144, t145, t146, t147, t148, t149, t150, t151, t152, t153, t154, t155, t156, t157, t158, t159, t160, t161, t162, t163, t164, t165, t166, t167, t168, t169, t170, t171, t172, t173, t174, t175, t176, t177, t178, t179, t180, t181, t182, t183, t184, t185, t186, t187, t188, t189, t190, t191, t192, t193, t194, t195, t196, t197, t198, t199, t200, t201, t202, t203, t204, t205, t206, t207, t208, t209, t210, t211, t212, t213, t214, t215, t216, t217, t218, t219, t220, t221, t222, t223, t224, t225, t226, t227, t228, t229, t230, t231, t232, t233, t234, t235, t236, t237, t238, t239, t240, t241, t242, t243, t244, t245, t246, t247, t248, t249, t250, t251, t252, t253, t254, t255, t256, t257, t258, t259, t260, t261, t262, t263, t264, t265, t266, t267, t268, t269, t270, t271, t272, t273, t274, t275, t276, t277, t278, t279, t280, t281, t282, t283, t284, t285, t286, t287, t288, t289, t290, t291, t292, t293, t294, t295, t296, t297, t298, t299, t300, t301, t302, u303, u304, u305, u306, u307, u308, u309, u310, u311, u312, u313, u314, u315, u316, u317, u318, u319, u320, u321, u322, u323, u324, u325, u326, u327, u328, u329, u330, u331, t332, t333], []⟩) → K a' w')
    (hR : ∀ a' w', (∃ (u17 u303 u304 u305 u306 u307 u308 u309 u310 u311 u312 u313 u314 u315 u316 u317 u318 u319 u320 u321 u322 u323 u324 u325 u326 u327 u328 u329 u330 u331 : Value), (bumpP q0.parts T = none ∧ Zd w w' N2) ∧ a' = ⟨#[t0, t1, .pointer (some ⟨N, 0, none⟩), .pointer (some ⟨N1, 0, none⟩), .pointer (some ⟨N2, 0, none⟩), .slice none 0 0, .int .i64 32, .pointer (some ⟨N3, 0, none⟩), .pointer (some ⟨X, 0, none⟩), .slice ta T.length tc, t10, t11, t12, t13, t14, t15, t16, u17, t18, t19, t20, t21, t22, t23, t24, t25, t26, t27, t28, t29, t30, t31, t32, t33, t34, t35, t36, t37, t38, t39, t40, t41, t42, t43, t44, t45, t46, t47, t48, t49, t50, t51, t52, t53, t54, t55, t56, t57, t58, t59, t60, t61, t62, t63, t64, t65, t66, t67, t68, t69, t70, t71, t72, t73, t74, t75, t76, t77, t78, t79, t80, t81, t82, t83, t84, t85, t86, t87, t88, t89, t90, t91, t92, t93, t94, t95, t96, t97, t98, t99, t100, t101, t102, t103, t104, t105, t106, t107, t108, t109, t110, t111, t112, t113, t114, t115, t116, t117, t118, t119, t120, t121, t122, t123, t124, t125, t126, t127, t128, t129, t130, t131, t132, t133, t134, t135, t136, t137, t138, t139, t140, t141, t142, t143, t144, t145, t146, t147, t148, t149, t150, t151, t152, t153, t154, t155, t156, t157, t158, t159, t160, t161, t162, t163, t164, t165, t166, t167, t168, t169, t170, t171, t172, t173, t174, t175, t176, t177, t178, t179, t180, t181, t182, t183, t184, t185, t186, t187, t188, t189, t190, t191, t192, t193, t194, t195, t196, t197, t198, t199, t200, t201, t202, t203, t204, t205, t206, t207, t208, t209, t210, t211, t212, t213, t214, t215, t216, t217, t218, t219, t220, t221, t222, t223, t224, t225, t226, t227, t228, t229, t230, t231, t232, t233, t234, t235, t236, t237, t238, t239, t240, t241, t242, t243, t244, t245, t246, t247, t248, t249, t250, t251, t252, t253, t254, t255, t256, t257, t258, t259, t260, t261, t262, t263, t264, t265, t266, t267, t268, t269, t270, t271, t272, t273, t274, t275, t276, t277, t278, t279, t280, t281, t282, t283, t284, t285, t286, t287, t288, t289, t290, t291, t292, t293, t294, t295, t296, t297, t298, t299, t300, t301, t302, u303, u304, u305, u306, u307, u308, u309, u310, u311, u312, u313, u314, u315, u316, u317, u318, u319, u320, u321, u322, u323, u324, u325, u326, u327, u328, u329, u330, u331, t332, t333], []⟩) → bodyPost Tryz.prog Tryz.f10 Po .ret a' w') : Code.wp Tryz.prog c (Exit.then K (bodyPost Tryz.prog Tryz.f10 Po)) ⟨#[t0, t1, .pointer (some ⟨N, 0, none⟩), .pointer (some ⟨N1, 0, none⟩), .pointer (some ⟨N2, 0, none⟩), t5, t6, .pointer (some ⟨N3, 0, none⟩), .pointer (some ⟨X, 0, none⟩), .slice ta T.length tc, t10, t11, t12, t13, t14, t15, t16, .int .i64 0, t18, t19, t20, t21, t22, t23, t24, t25, t26, t27, t28, t29, t30, t31, t32, t33, t34, t35, t36, t37, t38, t39, t40, t41, t42, t43, t44, t45, t46, t47, t48, t49, t50, t51, t52, t53, t54, t55, t56, t57, t58, t59, t60, t61, t62, t63, t64, t65, t66, t67, t68, t69, t70, t71, t72, t73, t74, t75, t76, t77, t78, t79, t80, t81, t82, t83, t84, t85, t86, t87, t88, t89, t90, t91, t92, t93, t94, t95, t96, t97, t98, t99, t100, t101, t102, t103, t104, t105, t106, t107, t108, t109, t110, t111, t112, t113, t114, t115, t116, t117, t118, t119, t120, t121, t122, t123, t124, t125, t126, t127, t128, t129, t130, t131, t132, t133, t134, t135, t136, t137, t138, t139, t140, t141, t142, t143, t144, t145, t146, t147, t148, t149, t150, t151, t152, t153, t154, t155, t156, t157, t158, t159, t160, t161, t162, t163, t164, t165, t166, t167, t168, t169, t170, t171, t172, t173, t174, t175, t176, t177, t178, t179, t180, t181, t182, t183, t184, t185, t186, t187, t188, t189, t190, t191, t192, t193, t194, t195, t196, t197, t198, t199, t200, t201, t202, t203, t204, t205, t206, t207, t208, t209, t210, t211, t212, t213, t214, t215, t216, t217, t218, t219, t220, t221, t222, t223, t224, t225, t226, t227, t228, t229, t230, t231, t232, t233, t234, t235, t236, t237, t238, t239, t240, t241, t242, t243, t244, t245, t246, t247, t248, t249, t250, t251, t252, t253, t254, t255, t256, t257, t258, t259, t260, t261, t262, t263, t264, t265, t266, t267, t268, t269, t270, t271, t272, t273, t274, t275, t276, t277, t278, t279, t280, t281, t282, t283, t284, t285, t286, t287, t288, t289, t290, t291, t292, t293, t294, t295, t296, t297, t298, t299, t300, t301, t302, t303, t304, t305, t306, t307, t308, t309, t310, t311, t312, t313, t314, t315, t316, t317, t318, t319, t320, t321, t322, t323, t324, t325, t326, t327, t328, t329, t330, t331, t332, t333], []⟩ W := by
  obtain rfl := Option.some.inj ((rfl : Tryz.f10.body.bind (subB 7) = some _).symm.trans hc)
  have HN := Lib.hid hN
  have HR := Lib.hid hR
  have hturn := TurnRd.of_owns hT.tur
  have hTl : (T.length : Int) ≤ 9223372036854775807 := by
    obtain ⟨a, c, e, -, h, -⟩ := (IntsRd.of_owns hT.tur).cells
    have : maxLen = 9223372036854775807 := rfl
    omega
  have hend : ∀ (W' : World) (Q : List Pt) (m : List (Value × Pt)), PlanOwn W' B X ⟨q0.nodes, q0.copies, Q, q0.lives⟩ pa2 pc2 la2 lc2 m → Upd (fun b => some b = (Value.slice pa2 q0.parts.length pc2).ownBlock) W W' →
      Fx w W' N N1 N2 N3 B p pa la pc lc x ∧ IntsRd W' (.slice ta T.length tc) T ∧ ∀ W2, Upd (fun j => j = N2) W' W2 → PlanFrom W2 w.heap.size (planV ⟨q0.nodes, q0.copies, Q, q0.lives⟩ pa2 pc2 la2 lc2) ⟨q0.nodes, q0.copies, Q, q0.lives⟩ ∧ TurnRd W2 (.slice ta T.length tc) T := by
    intro W' Q m hW hu
    have hlo := fun g hg => (owns_lt hT.own.parts.own g hg).1
    have hty : ∀ b, some b = (Value.slice pa2 q0.parts.length pc2).ownBlock → ∃ cur T, W.heap[b]? = some (.cells cur T (0, 0)) ∧ T ≠ 3 := fun b e => by
      obtain ⟨c, hc⟩ := owns_block hT.own.parts.own b e.symm
      exact ⟨c, _, hc, by decide⟩
    have hF' := hF.upd hu (fun k e => hlo k e.symm)
    obtain ⟨l1, l2, l3, l4, l5, l6⟩ := hF'.lt
    refine ⟨hF', hturn _ W' hty hu, fun W2 hu2 => ⟨(hW.lowU hu2 (fun j e => by omega)).toFrom.mono (by omega), (hturn.upd hty hu).upd (fun b e => by cases e; exact ⟨_, _, hF'.res, by decide⟩) hu2⟩⟩
  have HEND := Lib.hid hend
  have HT2 := Lib.hid hT2
  have HT := Lib.hid hT
  have HEP := Lib.hid hep
  have HF := Lib.hid hF
  clear hc hF hT hep hT2 hN hR hend hturn
  dsimp only
  go_step
  go_loopg [17] T.length (fun gk i wx => ∃ (j : Nat) (Q : List Pt) (m : List (Value × Pt)), j ≤ T.length ∧ gk = T.length - j ∧ i = .int .i64 j ∧ PlanOwn wx B X ⟨q0.nodes, q0.copies, Q, q0.lives⟩ pa2 pc2 la2 lc2 m ∧ Q.length = q0.parts.length ∧ EpOk Q ∧
    bumpP Q (T.drop j) = bumpP q0.parts T ∧ Upd (fun b => some b = (Value.slice pa2 q0.parts.length pc2).ownBlock) W wx)
  case atStart => exact ⟨0, q0.parts, m2, Nat.zero_le _, rfl, rfl, HT.out.own, rfl, HEP.out, rfl, Upd.refl _ _⟩
  case round =>
    obtain ⟨j, Q, m, hj, rfl, rfl, hown, hQl, hepQ, hbump, hu⟩ := hrel
    obtain ⟨hF, htr, hed⟩ := HEND.out wr Q m hown hu
    have HX := Lib.hid (And.intro hown (And.intro hbump (And.intro hu hed)))
    have HF' := Lib.hid hF
    have HQL := Lib.hid hQl
    by_cases hlt : j < T.length
    · obtain ⟨ta', tc', e', -, -, hTC⟩ := htr.cells
      simp only [Value.slice.injEq, true_and] at e'
      obtain ⟨rfl, rfl⟩ := e'
      obtain ⟨b, off, rfl, hb, ct⟩ := hTC j hlt
      obtain ⟨ht0, ht1⟩ := HT2.out _ (List.getElem_mem hlt)
      obtain ⟨t, et⟩ := Int.eq_ofNat_of_zero_le ht0
      have htQ : t < Q.length := by omega
      rw [et] at ct
      have hdr : T.drop j = (t : Int) :: T.drop (j + 1) := by rw [List.drop_eq_getElem_cons hlt, et]
      obtain ⟨g, rfl⟩ := hown.ptr (by simp only; omega)
      obtain ⟨hjm, ca, cc, em, e0, -, -, fg, -, hgp, hgl, hgN⟩ := hown.place t htQ
      have o2 := cells_of hown.blk 2 _ rfl
      have hat : atP Q (t : Int) = Q[t] := atP_lt htQ
      obtain ⟨hep1, hep2⟩ := hepQ _ (List.getElem_mem htQ)
      obtain ⟨m', hset, -⟩ := hown.setEpoch t htQ (Q[t].epoch + 1)
      have hsu := (upd_set1 wr g (t * 3) (.int .i64 (Q[t].epoch + 1))).trans (upd_drew _ _)
      obtain ⟨wy, hwy⟩ : ∃ wy, wy = (wr.setCell ⟨g, t * 3, none⟩ (.int .i64 (Q[t].epoch + 1))).drew := ⟨_, rfl⟩
      have hset := hset.below (Below.refl _ _).drew
      rw [← hwy] at hsu hset
      have hu' : Upd (fun b => some b = (Value.slice (some ⟨g, 0, none⟩) q0.parts.length pc2).ownBlock) W wy := hu.trans (hsu.mono (fun b _ e => by rw [e]; rfl))
      have hbs : bumpP Q (T.drop j) = if 1073741824 < Q[t].epoch + 1 then none else bumpP (Q.set t ⟨Q[t].epoch + 1, Q[t].chain, Q[t].learner⟩) (T.drop (j + 1)) := by
        rw [hdr]; simp only [bumpP, hat, Int.toNat_natCast]
      rw [hbump] at hbs
      obtain ⟨hF2, htr2, -⟩ := HEND.out _ _ m' hset hu'
      obtain ⟨ta3, tc3, e3, -, -, hTC3⟩ := htr2.cells
      simp only [Value.slice.injEq, true_and] at e3
      obtain ⟨rfl, rfl⟩ := e3
      obtain ⟨b3, off3, e4, hb3, ct3⟩ := hTC3 j hlt
      simp only [Option.some.injEq, Addr.mk.injEq, and_true] at e4
      obtain ⟨rfl, rfl⟩ := e4
      rw [et] at ct3
      have hplace := hset.place t (by simpa using htQ)
      obtain ⟨-, ca', cc', -, e0', -, -, -, -, -, -, -⟩ := hplace
      have o2' := cells_of hset.blk 2 _ rfl
      have e0s : wy.cell? ⟨g, t * 3, none⟩ = some (.int .i64 (Q[t].epoch + 1)) := by simpa using e0'
      have o2s : wy.cell? ⟨X, 2, none⟩ = some (.slice (some ⟨g, 0, none⟩) Q.length pc2) := by simpa using o2'
      have fg0 := fg (t * 3)
      have q1 : IntKind.i64.wrap (Q[t].epoch + 1) = Q[t].epoch + 1 := IntWalk.i64_in _ (by omega)
      have HS := Lib.hid (And.intro hset (And.intro hu' (And.intro hbs hF2)))
      have HEQ := Lib.hid hepQ
      have HWY := Lib.hid hwy
      have HC := Lib.hid (And.intro e0s (And.intro o2s ct3))
      have i1 : (j : Int) < (T.length : Int) := by omega
      have i2 : (0 : Int) ≤ (j : Int) := by omega
      have i3 : (0 : Int) ≤ (t : Int) := by omega
      have i4 : (t : Int) < (Q.length : Int) := by omega
      have hle : ¬ 1073741824 < Q[t].epoch + 1 → EpOk (Q.set t ⟨Q[t].epoch + 1, Q[t].chain, Q[t].learner⟩) := by
        intro hm y hy
        rcases List.mem_or_eq_of_mem_set hy with h2 | rfl
        · exact hepQ y h2
        · exact ⟨by simp only; omega, by simp only; omega⟩
      have HLE := Lib.hid hle
      clear hset hu' hbs hF2 hepQ e0' o2' hown hbump hed htr htr2 hTC hTC3 hdr hat et ht0 ht1 hsu hu em fg hQl hle hb3 hF hwy e0s o2s ct3
      generalize Q[t].epoch = ep at *
      go_upto_region 64 with fail
      go_cut [17] from 303 to 331 (fun v wx => v = .int .i64 j ∧ wx = wy)
      case first =>
        go_region_law (fail)
        all_goals
          go_wp2_with fail
          go_meet
          exact ⟨rfl, HWY.out.symm⟩
      case rest =>
      obtain ⟨rfl, hwc⟩ := hcut
      subst hwc
      obtain ⟨e0s, o2s, ct3⟩ := HC.out
      clear e0 o2 ct fg0 q1
      obtain ⟨-, -, l3, l4, -, -⟩ := HS.out.2.2.2.lt
      by_cases hm : 1073741824 < ep + 1
      · have HM := Lib.hid hm
        have z := HS.out.2.2.2.non
        have z0 := cells_of z 0 _ rfl
        have z1 := cells_of z 1 _ rfl
        have z2 := cells_of z 2 _ rfl
        have z3 := cells_of z 3 _ rfl
        have y := HS.out.2.2.2.res
        have f0 := frozen_of (j := 0) y
        have f1 := frozen_of (j := 1) y
        have f2 := frozen_of (j := 2) y
        have f3 := frozen_of (j := 3) y
        have y0 := cells_of y 0 _ rfl
        have y1 := cells_of y 1 _ rfl
        have y2 := cells_of y 2 _ rfl
        have y3 := cells_of y 3 _ rfl
        clear z y
        go_wp2
        go_quiet (fail)
        go_wp2
        have hF3 := HS.out.2.2.2.below (below_drewN (Below.refl _ wc) nq)
        obtain ⟨W2, hW2, r0, r1, r2, r3, hbf, -⟩ := hF3.fin (.int .i64 0) (.int .i64 0) (.slice none 0 0) (.slice none 0 0)
        rw [hW2] at r0 r1 r2 r3 hbf
        refine HR.out _ _ ?_
        repeat apply Exists.intro
        exact ⟨⟨by have := HS.out.2.2.1; rw [if_pos HM.out] at this; exact this, r0, r1, r2, r3, hbf⟩, rfl⟩
      · have HM := Lib.hid hm
        have hd : decide (1073741824 < ep + 1) = false := decide_eq_false hm
        have hR2 : bumpP (Q.set t ⟨ep + 1, Q[t].chain, Q[t].learner⟩) (T.drop (j + 1)) = bumpP q0.parts T := by have := HS.out.2.2.1; rw [if_neg HM.out] at this; exact this.symm
        have HR2 := Lib.hid hR2
        clear hR2
        go_wp2
        go_quiet (fail)
        go_wp2
        go_roundg (T.length - (j + 1))
        case measure => omega
        case rel => exact ⟨j + 1, _, m', by omega, rfl, by go_num, HS.out.1.below (below_drewN (Below.refl _ _) _), by rw [List.length_set]; exact HQL.out, HLE.out HM.out, HR2.out, HS.out.2.1.trans (Upd.of_below (below_drewN (Below.refl _ _) _))⟩
    · have hdr : T.drop j = [] := List.drop_eq_nil_of_le (by omega)
      have hQ : bumpP q0.parts T = some Q := by rw [← hbump, hdr]; rfl
      have i1 : ¬ (j : Int) < (T.length : Int) := by omega
      have HQ := Lib.hid (And.intro hown (And.intro hQ (And.intro hF hed)))
      clear hQl hQ hdr hbump hown hepQ htr hed hF
      go_wp2
      refine HN.out _ _ ?_
      repeat apply Exists.intro
      exact ⟨HQ.out, rfl⟩
end Go.Proofs.YtjkobbmdemooaaaGreatDoor
