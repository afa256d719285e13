/- PlanSafe: its first drawn region and its inner loops, as lemmas of its own. -/
import Derived.Test.YtjkobbmdemooaaaDoorPlR3
import Derived.Test.YtjkobbmdemooaaaDoorPlBg
import Derived.Test.YtjkobbmdemooaaaDoorPlV
import Derived.Test.YtjkobbmdemooaaaDoorPlIn
import Derived.Test.YtjkobbmdemooaaaDoorPlAw
import Derived.Deep.CutBlock
namespace Go.Proofs.YtjkobbmdemooaaaDoor
open Go.RowKit

/-- The region of this number in a function's text. -/
def subR (n : Nat) : Code → Option Code
  | .region i o d => if i = n then some (.region i o d) else none
  | .seq a b => match subR n a with
    | some c => some c
    | none => subR n b
  | .cond _ a b => match subR n a with
    | some c => some c
    | none => subR n b
  | .block _ b => subR n b
  | .loop b => subR n b
  | _ => none
/-- The block of this number. -/
def subB (n : Nat) : Code → Option Code
  | .seq a b => match subB n a with
    | some c => some c
    | none => subB n b
  | .cond _ a b => match subB n a with
    | some c => some c
    | none => subB n b
  | .block i b => if i = n then some (.block i b) else subB n b
  | .loop b => subB n b
  | _ => none

theorem cutAT {wr w5 : World} {a b c d tv : Value} {q : Pl} {l : List Int} (h : PlanFrom w5 wr.drew.heap.size (.agg #[a, b, c, d]) q) (hb : Below wr.drew.heap.size wr.drew w5) (ht : TurnRd w5 tv l) :
    PlanAt (w5.alloc (.cells #[a, b, c, d] 28)) wr.heap.size w5.heap.size q ∧ Below wr.heap.size wr (w5.alloc (.cells #[a, b, c, d] 28)) ∧ IntsRd (w5.alloc (.cells #[a, b, c, d] 28)) tv l :=
  ⟨(cutA h hb).1, (cutA h hb).2, (ht.below (below_alloc _ _)).rd⟩
theorem cutBT {wr w5 : World} {a b c d z0 z1 z2 z3 tv : Value} {q : Pl} {l : List Int} (h : PlanFrom w5 (wr.alloc (.cells #[z0, z1, z2, z3] 28)).drew.heap.size (.agg #[a, b, c, d]) q)
    (hb : Below (wr.alloc (.cells #[z0, z1, z2, z3] 28)).drew.heap.size (wr.alloc (.cells #[z0, z1, z2, z3] 28)).drew w5) (ht : TurnRd w5 tv l) :
    PlanAt ((((w5.setCell ⟨wr.heap.size, 0, none⟩ a).setCell ⟨wr.heap.size, 1, none⟩ b).setCell ⟨wr.heap.size, 2, none⟩ c).setCell ⟨wr.heap.size, 3, none⟩ d) wr.heap.size wr.heap.size q ∧
      Below wr.heap.size wr ((((w5.setCell ⟨wr.heap.size, 0, none⟩ a).setCell ⟨wr.heap.size, 1, none⟩ b).setCell ⟨wr.heap.size, 2, none⟩ c).setCell ⟨wr.heap.size, 3, none⟩ d) ∧
      IntsRd ((((w5.setCell ⟨wr.heap.size, 0, none⟩ a).setCell ⟨wr.heap.size, 1, none⟩ b).setCell ⟨wr.heap.size, 2, none⟩ c).setCell ⟨wr.heap.size, 3, none⟩ d) tv l :=
  ⟨(cutB h hb).1, (cutB h hb).2, (ht.upd (F := fun k => k = wr.heap.size) (by rintro k rfl; exact ⟨_, _, zero_kept hb, by decide⟩) (upd_set4 w5 wr.heap.size a b c d)).rd⟩

set_option maxRecDepth 100000 in
set_option maxHeartbeats 4000000 in
theorem sf_r7 {c : Code} (hc : Tryd.f3.body.bind (subR 7) = some c) {wr : World} {X k E ec b off : Nat} {p : Pl} {pa la : Option Addr} {pc lc : Nat} {x : Event} (hrdy : Ready wr X p pa la pc lc b (off + k * 4) x) {R : Pl × List Int × Int} (hR : applyP p x = R)
    (i1 : (k : Int) < (E : Int)) (i2 : (0 : Int) ≤ (k : Int)) {J K K1 K2 K3 : Act → World → Prop} {T : Ending → World → Prop} {t0 t2 t3 t4 t7 t8 t9 t10 t11 t12 t13 t14 t15 t16 t17 t18 t19 t20 t21 t22 t23 t24 t25 t26 t27 t28 t29 t30 t31 t32 t33 t34 t35 t36 t37 t38 t39 t40 t41 t42 t43 t44 t45 t46 t47 t48 t49 t50 t51 t52 t53 t54 t55 t56 t57 t58 t59 t60 t61 t62 t63 t64 t65 t66 t67 t68 t69 t70 t71 t72 t73 t74 t75 t76 t77 t78 t79 t80 t81 t82 t83 t84 t85 t86 t87 t88 t89 t90 t91 t92 t93 t94 t95 t96 t97 t98 t99 t100 t101 t102 t103 t104 t105 t106 t107 t108 t109 t110 t111 t112 t113 t114 t115 t116 t117 t118 t119 t120 t121 t122 t123 t124 t125 t126 t127 t128 t129 t130 t131 t132 t133 t134 t135 t136 t137 t138 t139 t140 t141 t142 t143 t144 t145 t146 t147 t148 t149 t150 t151 t152 t153 t154 t155 t156 t157 t158 t159 t160 t161 t162 t163 t164 t165 t166 t167 t168 t169 t170 t171 t172 t173 t174 t175 t176 t177 t178 t179 t180 t181 t182 t183 t184 t185 t186 t187 t188 t189 : Value}
    (hJ : ∀ a' w', (∃ u7 u8 u9 u30 u31 u32 u33 u34 u35 u36 u37 u38 u39 u40, (∃ (Y : Nat) (ta : Option Addr) (tc : Nat), u7 = .pointer (some ⟨Y, 0, none⟩) ∧ u8 = .slice ta R.2.1.length tc ∧ u9 = .int .i64 R.2.2 ∧ PlanAt w' wr.heap.size Y R.1 ∧ Below wr.heap.size wr w' ∧ IntsRd w' (.slice ta R.2.1.length tc) R.2.1) ∧ a' = ⟨#[t0, .slice (some ⟨b, off, none⟩) E ec, t2, t3, t4, .pointer (some ⟨X, 0, none⟩), .int .i64 k, u7, u8, u9, t10, t11, t12, t13, t14, t15, t16, t17, t18, t19, t20, t21, t22, t23, t24, t25, t26, t27, t28, t29, u30, u31, u32, u33, u34, u35, u36, u37, u38, u39, u40, t41, t42, t43, t44, t45, t46, t47, t48, t49, t50, t51, t52, t53, t54, t55, t56, t57, t58, t59, t60, t61, t62, t63, t64, t65, t66, t67, t68, t69, t70, t71, t72, t73, t74, t75, t76, t77, t78, t79, t80, t81, t82, t83, t84, t85, t86, t87, t88, t89, t90, t91, t92, t93, t94, t95, t96, t97, t98, t99, t100, t101, t102, t103, t104, t105, t106, t107, t108, t109, t110, t111, t112, t113, t114, t115, t116, t117, t118, t119, t120, t121, t122, t123, t124, t125, t126, t127, t128, t129, t130, t131, t132, t133, t134, t135, t136, t137, t138, t139, t140, t141, t142, t143, t144, t145, t146, t147, t148, t149, t150, t151, t152, t153, t154, t155, t156, t157, t158, t159, t160, t161, t162, t163, t164, t165, t166, t167, t168, t169, t170, t171, t172, t173, t174, t175, t176, t177, t178, t179, t180, t181, t182, t183, t184, t185, t186, t187, t188, t189], []⟩) → J a' w')
    (hM : ∀ a' w', Met J a' w' → K a' w') : Code.wp Tryd.prog c (Exit.then K (Exit.inBlock 1 (Exit.then K1 (Exit.then K2 (Exit.inBlock 0 (Exit.then K3 (bodyPost Tryd.prog Tryd.f3 T))))))) ⟨#[t0, .slice (some ⟨b, off, none⟩) E ec, t2, t3, t4, .pointer (some ⟨X, 0, none⟩), .int .i64 k, t7, t8, t9, t10, t11, t12, t13, t14, t15, t16, t17, t18, t19, t20, t21, t22, t23, t24, t25, t26, t27, t28, t29, t30, t31, t32, t33, t34, t35, t36, t37, t38, t39, t40, t41, t42, t43, t44, t45, t46, t47, t48, t49, t50, t51, t52, t53, t54, t55, t56, t57, t58, t59, t60, t61, t62, t63, t64, t65, t66, t67, t68, t69, t70, t71, t72, t73, t74, t75, t76, t77, t78, t79, t80, t81, t82, t83, t84, t85, t86, t87, t88, t89, t90, t91, t92, t93, t94, t95, t96, t97, t98, t99, t100, t101, t102, t103, t104, t105, t106, t107, t108, t109, t110, t111, t112, t113, t114, t115, t116, t117, t118, t119, t120, t121, t122, t123, t124, t125, t126, t127, t128, t129, t130, t131, t132, t133, t134, t135, t136, t137, t138, t139, t140, t141, t142, t143, t144, t145, t146, t147, t148, t149, t150, t151, t152, t153, t154, t155, t156, t157, t158, t159, t160, t161, t162, t163, t164, t165, t166, t167, t168, t169, t170, t171, t172, t173, t174, t175, t176, t177, t178, t179, t180, t181, t182, t183, t184, t185, t186, t187, t188, t189], []⟩ wr := by
  obtain rfl := Option.some.inj ((rfl : Tryd.f3.body.bind (subR 7) = some _).symm.trans hc)
  have RDY := Lib.hid hrdy
  have HAP := Lib.hid (fun W hW => (RDY.out).apply hR W hW)
  obtain ⟨y0, y1, y2, y3, e0, e1, e2, e3⟩ := (RDY.out wr (Below.refl _ _)).1
  have hal := fun o => (RDY.out (wr.alloc o) (below_alloc wr o)).1
  have a0 := fun o => (hal o).1
  have a1 := fun o => (hal o).2.1
  have a2 := fun o => (hal o).2.2.1
  have a3 := fun o => (hal o).2.2.2.1
  have a4 := fun o => (hal o).2.2.2.2.1
  have a5 := fun o => (hal o).2.2.2.2.2.1
  have a6 := fun o => (hal o).2.2.2.2.2.2.1
  have a7 := fun o => (hal o).2.2.2.2.2.2.2
  clear hal hrdy hR hc
  go_region_law
    (first
      | (go_simp; go_at_call 10; refine (HAP.out _ (by first | exact (Below.refl _ _).drew | exact (below_alloc _ _).drew)).mono ?_; rintro e w5 ⟨pa5, la5, ta, pc5, lc5, tc, l5, j5, m5, n5, k5, rfl, h5, ht5, rfl, hb5⟩; (first | (have hz := zero_kept (wr := wr) hb5; have z0 := cells_of hz 0 _ rfl; have z1 := cells_of hz 1 _ rfl; have z2 := cells_of hz 2 _ rfl; have z3 := cells_of hz 3 _ rfl; have g0 := frozen_of (j := 0) hz; have g1 := frozen_of (j := 1) hz; have g2 := frozen_of (j := 2) hz; have g3 := frozen_of (j := 3) hz) | skip)))
  all_goals
    first
      | have H5 := Lib.hid (cutBT h5 hb5 ht5)
      | have H5 := Lib.hid (cutAT h5 hb5 ht5)
    clear h5 hb5 ht5
    go_wp2_with fail
    go_meet
    exact ⟨_, _, _, rfl, rfl, rfl, H5.out⟩
set_option maxRecDepth 100000 in
set_option maxHeartbeats 4000000 in
theorem sf_b4 {c : Code} (hc : Tryd.f3.body.bind (subB 4) = some c) {wb wg : World} {A B : Nat} {ca cb : Option Addr} {cc cd : Nat} {la lc : List Int} {z : Int}
    (hC : ∀ W, Below wb.heap.size wb W → W.cell? ⟨A, 1, none⟩ = some (.slice ca la.length cc) ∧ W.cell? ⟨A, 2, none⟩ = some (.int .i64 z) ∧ W.cell? ⟨B, 1, none⟩ = some (.slice cb lc.length cd))
    (hA : IntsRd wb (.slice ca la.length cc) la) (hB : IntsRd wb (.slice cb lc.length cd) lc) (h5 : la.length ≤ 5) (h5' : lc.length ≤ 5) (hT : Thin la lc z) (hbg : Below wb.heap.size wb wg)
    {Q : Exit → Act → World → Prop} {t0 t1 t2 t3 t4 t5 t6 t7 t8 t9 t10 t13 t16 t17 t18 t19 t20 t21 t22 t23 t24 t25 t26 t27 t28 t29 t30 t31 t32 t33 t34 t35 t36 t37 t38 t39 t40 t41 t42 t43 t44 t45 t46 t47 t48 t49 t50 t51 t52 t53 t54 t55 t56 t57 t58 t59 t60 t61 t62 t63 t64 t65 t66 t67 t68 t69 t70 t71 t72 t73 t74 t75 t76 t77 t78 t79 t80 t81 t82 t83 t84 t85 t86 t87 t88 t89 t90 t91 t92 t93 t94 t95 t96 t97 t98 t99 t100 t101 t102 t103 t104 t105 t106 t107 t108 t109 t110 t111 t112 t113 t114 t115 t116 t117 t118 t119 t120 t121 t122 t123 t124 t125 t126 t127 t128 t129 t130 t131 t132 t133 t134 t135 t136 t137 t138 t139 t140 t141 t142 t143 t144 t145 t146 t147 t148 t149 t150 t151 t152 t153 t154 t155 t156 t157 t158 t159 t160 t161 t162 t163 t164 t165 t166 t167 t168 t169 t170 t171 t172 t173 t174 t175 t176 t177 t178 t179 t180 t181 t182 t183 t184 t185 t186 t187 t188 t189 : Value}
    (hQ : ∀ a' w', (∃ u4 u14 u15 u126 u127 u128 u129 u130 u131 u132 u133 u134 u135 u136 u137 u138 u139 u140 u141 u142 u143 u144 u145 u146 u147 u148 u149 u150 u151 u152 u153 u154 u155 u156 u157 u158 u159 u160 u161 u162 u163 u164 u165 u166 u167 u168 u169 u170 u171 u172 u173 u174 u175 u176 u177, Below wb.heap.size wb w' ∧ a' = ⟨#[t0, t1, t2, t3, u4, t5, t6, t7, t8, t9, t10, .pointer (some ⟨A, 0, none⟩), .pointer (some ⟨B, 0, none⟩), t13, u14, u15, t16, t17, t18, t19, t20, t21, t22, t23, t24, t25, t26, t27, t28, t29, t30, t31, t32, t33, t34, t35, t36, t37, t38, t39, t40, t41, t42, t43, t44, t45, t46, t47, t48, t49, t50, t51, t52, t53, t54, t55, t56, t57, t58, t59, t60, t61, t62, t63, t64, t65, t66, t67, t68, t69, t70, t71, t72, t73, t74, t75, t76, t77, t78, t79, t80, t81, t82, t83, t84, t85, t86, t87, t88, t89, t90, t91, t92, t93, t94, t95, t96, t97, t98, t99, t100, t101, t102, t103, t104, t105, t106, t107, t108, t109, t110, t111, t112, t113, t114, t115, t116, t117, t118, t119, t120, t121, t122, t123, t124, t125, u126, u127, u128, u129, u130, u131, u132, u133, u134, u135, u136, u137, u138, u139, u140, u141, u142, u143, u144, u145, u146, u147, u148, u149, u150, u151, u152, u153, u154, u155, u156, u157, u158, u159, u160, u161, u162, u163, u164, u165, u166, u167, u168, u169, u170, u171, u172, u173, u174, u175, u176, u177, t178, t179, t180, t181, t182, t183, t184, t185, t186, t187, t188, t189], []⟩) → Q .normal a' w') : Code.wp Tryd.prog c Q ⟨#[t0, t1, t2, t3, t4, t5, t6, t7, t8, t9, t10, .pointer (some ⟨A, 0, none⟩), .pointer (some ⟨B, 0, none⟩), t13, .int .i64 0, .int .i64 0, t16, t17, t18, t19, t20, t21, t22, t23, t24, t25, t26, t27, t28, t29, t30, t31, t32, t33, t34, t35, t36, t37, t38, t39, t40, t41, t42, t43, t44, t45, t46, t47, t48, t49, t50, t51, t52, t53, t54, t55, t56, t57, t58, t59, t60, t61, t62, t63, t64, t65, t66, t67, t68, t69, t70, t71, t72, t73, t74, t75, t76, t77, t78, t79, t80, t81, t82, t83, t84, t85, t86, t87, t88, t89, t90, t91, t92, t93, t94, t95, t96, t97, t98, t99, t100, t101, t102, t103, t104, t105, t106, t107, t108, t109, t110, t111, t112, t113, t114, t115, t116, t117, t118, t119, t120, t121, t122, t123, t124, t125, t126, t127, t128, t129, t130, t131, t132, t133, t134, t135, t136, t137, t138, t139, t140, t141, t142, t143, t144, t145, t146, t147, t148, t149, t150, t151, t152, t153, t154, t155, t156, t157, t158, t159, t160, t161, t162, t163, t164, t165, t166, t167, t168, t169, t170, t171, t172, t173, t174, t175, t176, t177, t178, t179, t180, t181, t182, t183, t184, t185, t186, t187, t188, t189], []⟩ wg := by
  obtain rfl := Option.some.inj ((rfl : Tryd.f3.body.bind (subB 4) = some _).symm.trans hc)
  have HC := Lib.hid hC
  have HA := Lib.hid hA.at
  have HB := Lib.hid hB.at
  have HT := Lib.hid (And.intro hT hbg)
  have HQ := Lib.hid hQ
  clear hc hC hA hB hT hbg hQ
  dsimp only
  go_step
  go_loopg [14, 15] lc.length (fun gk v14 v15 wt => ∃ i j : Nat, j ≤ lc.length ∧ i ≤ la.length + j ∧ gk = lc.length - j ∧ v14 = .int .i64 i ∧ v15 = .int .i64 j ∧ Thin (la.drop i) (lc.drop j) z ∧ Below wb.heap.size wb wt)
  case atStart => exact ⟨0, 0, Nat.zero_le _, Nat.zero_le _, rfl, rfl, rfl, HT.out.1, HT.out.2⟩
  case round =>
  obtain ⟨i, j, hj, hi, rfl, rfl, rfl, hth, hbt⟩ := hrel
  have HTH := Lib.hid hth
  have HBT := Lib.hid hbt
  obtain ⟨-, -, b1⟩ := HC.out _ hbt
  clear hth hbt HT
  by_cases hjl : j < lc.length
  · have k1 : (j : Int) < (lc.length : Int) := by omega
    have k2 : (0 : Int) ≤ (j : Int) := by omega
    obtain ⟨bb, bo, rfl, hbc⟩ := HB.out j hjl
    obtain ⟨m, hm⟩ : ∃ m, lc[j] = m := ⟨_, rfl⟩
    obtain ⟨R, hR⟩ : ∃ R, lc.drop (j + 1) = R := ⟨_, rfl⟩
    have hth : Thin (la.drop i) (m :: R) z := by
      have h := HTH.out
      rwa [List.drop_eq_getElem_cons hjl, hm, hR] at h
    rw [hm] at hbc
    have HBC := Lib.hid hbc
    have HTM := Lib.hid hth
    have HR := Lib.hid hR
    clear hbc hm hth hR
    go_upto_block 6 with fail
    go_cut [14] from 126 to 177 (fun v14 wx => ∃ i' : Nat, i' ≤ la.length + j ∧ v14 = .int .i64 i' ∧ (la.length ≤ i' ∨ la[i']? = some m) ∧ Thin (la.drop i') (m :: R) z ∧ Below wb.heap.size wb wx)
    case first =>
      go_step
      go_loopg [14] (la.length + j - i) (fun gk v14 wt => ∃ i' : Nat, i' ≤ la.length + j ∧ gk = la.length + j - i' ∧ v14 = .int .i64 i' ∧ Thin (la.drop i') (m :: R) z ∧ Below wb.heap.size wb wt)
      case atStart => exact ⟨i, hi, rfl, rfl, HTM.out, HBT.out⟩
      case round =>
      clear b1
      obtain ⟨i', hi', rfl, rfl, hth, hbt⟩ := hrel
      have HTH' := Lib.hid hth
      have HBT' := Lib.hid hbt
      obtain ⟨a1, -, b1⟩ := HC.out _ hbt
      have b2 := HBC.out _ hbt
      clear hth hbt
      by_cases hil : i' < la.length
      · have l1 : (i' : Int) < (la.length : Int) := by omega
        have l2 : (0 : Int) ≤ (i' : Int) := by omega
        obtain ⟨ab, ao, rfl, hac⟩ := HA.out i' hil
        have a2 := hac _ HBT'.out
        obtain ⟨x, hx⟩ : ∃ x, la[i'] = x := ⟨_, rfl⟩
        have hth' : Thin (x :: la.drop (i' + 1)) (m :: R) z := by
          have h := HTH'.out
          rwa [List.drop_eq_getElem_cons hil, hx] at h
        have hget : la[i']? = some x := by rw [List.getElem?_eq_getElem hil, hx]
        rw [hx] at a2
        have HX := Lib.hid (And.intro hth' hget)
        clear hac hx hth' hget
        by_cases hxm : x = m
        · subst hxm
          go_wp2
          go_quiet (fail)
          go_wp2
          go_meet
          exact ⟨i', hi', rfl, .inr HX.out.2, HTH'.out, below_drewN HBT'.out _⟩
        · go_wp2
          go_quiet (fail)
          go_wp2
          go_roundg (la.length + j - (i' + 1))
          case measure => omega
          case rel => exact ⟨i' + 1, by omega, rfl, by go_num, HX.out.1.skip hxm, below_drewN HBT'.out _⟩
      · have l1 : ¬ (i' : Int) < (la.length : Int) := by omega
        have l2 : decide ((i' : Int) < (la.length : Int)) = false := decide_eq_false l1
        go_wp2
        go_quiet (fail)
        go_wp2
        go_meet
        exact ⟨i', hi', rfl, .inl (by omega), HTH'.out, below_drewN HBT'.out _⟩
    case rest =>
    obtain ⟨i', hi', rfl, hor, hth, hbt⟩ := hcut
    clear b1
    have HTH' := Lib.hid hth
    have HBT' := Lib.hid hbt
    have HOR := Lib.hid hor
    obtain ⟨a1, a3, b1⟩ := HC.out _ hbt
    have b2 := HBC.out _ hbt
    clear hth hbt hor
    by_cases hil : i' < la.length
    · have hme : la[i']? = some m := by
        rcases HOR.out with h | h
        · omega
        · exact h
      have hx : la[i'] = m := by
        have h := List.getElem?_eq_getElem hil
        rw [h] at hme
        exact Option.some.inj hme
      have hth' : Thin (la.drop (i' + 1)) R z := by
        have h := HTH'.out
        rw [List.drop_eq_getElem_cons hil, hx] at h
        exact h.met
      have HX := Lib.hid hth'
      have l1 : (i' : Int) < (la.length : Int) := by omega
      have l2 : decide ((la.length : Int) ≤ (i' : Int)) = false := decide_eq_false (by omega)
      have l3 : decide (la.length ≤ i') = false := decide_eq_false (by omega)
      clear hme hx hth'
      go_wp2
      go_quiet (fail)
      go_wp2
      go_roundg (lc.length - (j + 1))
      case measure => omega
      case rel => exact ⟨i' + 1, j + 1, by omega, by omega, rfl, by go_num, by go_num, by rw [HR.out]; exact HX.out, below_drewN HBT'.out _⟩
    · have hd : la.drop i' = [] := List.drop_of_length_le (by omega)
      have hlast : m = z ∧ R = [] := by
        have h := HTH'.out
        rw [hd] at h
        exact h.last
      obtain ⟨rfl, hRn⟩ := hlast
      have hjn : lc.length = j + 1 := by
        have h := HR.out
        rw [hRn] at h
        have := congrArg List.length h
        simp at this
        omega
      have l1 : (la.length : Int) ≤ (i' : Int) := by omega
      have l3 : IntKind.i64.wrap ((lc.length : Int) - 1) = (j : Int) := by rw [IntWalk.i64_in _ (by omega)]; omega
      have l4 : wrap64 ((lc.length : Int) - 1) = (j : Int) := by rw [IntWalk.wrap64_in _ (by omega)]; omega
      have HX := Lib.hid (And.intro hRn (And.intro hjn hd))
      clear hd hRn hjn
      go_wp2
      go_quiet (fail)
      go_wp2
      go_roundg (lc.length - (j + 1))
      case measure => omega
      case rel => exact ⟨i' + 1, j + 1, by omega, by omega, rfl, by go_num, by go_num, by rw [HR.out, HX.out.1]; exact Thin.done _ _, below_drewN HBT'.out _⟩
  · have k1 : ¬ (j : Int) < (lc.length : Int) := by omega
    go_wp2
    refine HQ.out _ _ ?_
    repeat apply Exists.intro
    exact ⟨HBT.out, rfl⟩

set_option maxRecDepth 100000 in
set_option maxHeartbeats 4000000 in
theorem sf_b8 {c : Code} (hc : Tryd.f3.body.bind (subB 8) = some c) {wb wg : World} {X Y : Nat} {p q : Pl} {pa1 la1 pa2 la2 : Option Addr} {pc1 lc1 pc2 lc2 : Nat}
    (hX : ∀ W, Below wb.heap.size wb W → W.cell? ⟨X, 0, none⟩ = some (.int .i64 p.nodes) ∧ W.cell? ⟨X, 1, none⟩ = some (.int .i64 p.copies) ∧ W.cell? ⟨X, 2, none⟩ = some (.slice pa1 p.parts.length pc1) ∧ W.cell? ⟨X, 3, none⟩ = some (.slice la1 p.lives.length lc1) ∧ PlanRd W (.agg #[.int .i64 p.nodes, .int .i64 p.copies, .slice pa1 p.parts.length pc1, .slice la1 p.lives.length lc1]) p)
    (hY : ∀ W, Below wb.heap.size wb W → W.cell? ⟨Y, 0, none⟩ = some (.int .i64 q.nodes) ∧ W.cell? ⟨Y, 1, none⟩ = some (.int .i64 q.copies) ∧ W.cell? ⟨Y, 2, none⟩ = some (.slice pa2 q.parts.length pc2) ∧ W.cell? ⟨Y, 3, none⟩ = some (.slice la2 q.lives.length lc2) ∧ PlanRd W (.agg #[.int .i64 q.nodes, .int .i64 q.copies, .slice pa2 q.parts.length pc2, .slice la2 q.lives.length lc2]) q)
    (hrp : Rising p.lives) (hrq : Rising q.lives) (hlp : p.lives.length ≤ 1000) (hlq : q.lives.length ≤ 1000) (hle : ∀ n, lifeP p.lives n ≤ lifeP q.lives n) (hbg : Below wb.heap.size wb wg)
    {Q : Exit → Act → World → Prop} {t0 t1 t2 t3 t4 t6 t8 t9 t10 t11 t12 t13 t14 t15 t17 t18 t19 t20 t21 t22 t23 t24 t25 t26 t27 t28 t29 t30 t31 t32 t33 t34 t35 t36 t37 t38 t39 t40 t41 t42 t43 t44 t45 t46 t47 t48 t49 t50 t51 t52 t53 t54 t55 t56 t57 t58 t59 t60 t61 t62 t63 t64 t65 t66 t67 t68 t69 t70 t71 t72 t73 t74 t75 t76 t77 t78 t79 t80 t81 t82 t83 t84 t85 t86 t87 t88 t89 t90 t91 t92 t93 t94 t95 t96 t97 t98 t99 t100 t101 t102 t103 t104 t105 t106 t107 t108 t109 t110 t111 t112 t113 t114 t115 t116 t117 t118 t119 t120 t121 t122 t123 t124 t125 t126 t127 t128 t129 t130 t131 t132 t133 t134 t135 t136 t137 t138 t139 t140 t141 t142 t143 t144 t145 t146 t147 t148 t149 t150 t151 t152 t153 t154 t155 t156 t157 t158 t159 t160 t161 t162 t163 t164 t165 t166 t167 t168 t169 t170 t171 t172 t173 t174 t175 t176 t177 t178 t179 t180 t181 t182 t183 t184 t185 t186 t187 t188 t189 : Value}
    (hQ : ∀ a' w', (∃ u4 u16 u178 u179 u180 u181 u182 u183 u184 u185 u186 u187 u188, Below wb.heap.size wb w' ∧ a' = ⟨#[t0, t1, t2, t3, u4, .pointer (some ⟨X, 0, none⟩), t6, .pointer (some ⟨Y, 0, none⟩), t8, t9, t10, t11, t12, t13, t14, t15, u16, t17, t18, t19, t20, t21, t22, t23, t24, t25, t26, t27, t28, t29, t30, t31, t32, t33, t34, t35, t36, t37, t38, t39, t40, t41, t42, t43, t44, t45, t46, t47, t48, t49, t50, t51, t52, t53, t54, t55, t56, t57, t58, t59, t60, t61, t62, t63, t64, t65, t66, t67, t68, t69, t70, t71, t72, t73, t74, t75, t76, t77, t78, t79, t80, t81, t82, t83, t84, t85, t86, t87, t88, t89, t90, t91, t92, t93, t94, t95, t96, t97, t98, t99, t100, t101, t102, t103, t104, t105, t106, t107, t108, t109, t110, t111, t112, t113, t114, t115, t116, t117, t118, t119, t120, t121, t122, t123, t124, t125, t126, t127, t128, t129, t130, t131, t132, t133, t134, t135, t136, t137, t138, t139, t140, t141, t142, t143, t144, t145, t146, t147, t148, t149, t150, t151, t152, t153, t154, t155, t156, t157, t158, t159, t160, t161, t162, t163, t164, t165, t166, t167, t168, t169, t170, t171, t172, t173, t174, t175, t176, t177, u178, u179, u180, u181, u182, u183, u184, u185, u186, u187, u188, t189], []⟩) → Q .normal a' w') : Code.wp Tryd.prog c Q ⟨#[t0, t1, t2, t3, t4, .pointer (some ⟨X, 0, none⟩), t6, .pointer (some ⟨Y, 0, none⟩), t8, t9, t10, t11, t12, t13, t14, t15, .int .i64 1, t17, t18, t19, t20, t21, t22, t23, t24, t25, t26, t27, t28, t29, t30, t31, t32, t33, t34, t35, t36, t37, t38, t39, t40, t41, t42, t43, t44, t45, t46, t47, t48, t49, t50, t51, t52, t53, t54, t55, t56, t57, t58, t59, t60, t61, t62, t63, t64, t65, t66, t67, t68, t69, t70, t71, t72, t73, t74, t75, t76, t77, t78, t79, t80, t81, t82, t83, t84, t85, t86, t87, t88, t89, t90, t91, t92, t93, t94, t95, t96, t97, t98, t99, t100, t101, t102, t103, t104, t105, t106, t107, t108, t109, t110, t111, t112, t113, t114, t115, t116, t117, t118, t119, t120, t121, t122, t123, t124, t125, t126, t127, t128, t129, t130, t131, t132, t133, t134, t135, t136, t137, t138, t139, t140, t141, t142, t143, t144, t145, t146, t147, t148, t149, t150, t151, t152, t153, t154, t155, t156, t157, t158, t159, t160, t161, t162, t163, t164, t165, t166, t167, t168, t169, t170, t171, t172, t173, t174, t175, t176, t177, t178, t179, t180, t181, t182, t183, t184, t185, t186, t187, t188, t189], []⟩ wg := by
  obtain rfl := Option.some.inj ((rfl : Tryd.f3.body.bind (subB 8) = some _).symm.trans hc)
  have HX := Lib.hid hX
  have HY := Lib.hid hY
  have HP := Lib.hid (And.intro hrp (And.intro hrq (And.intro hlp hlq)))
  have HLE := Lib.hid hle
  have HBG := Lib.hid hbg
  have HQ := Lib.hid hQ
  clear hc hX hY hrp hrq hlp hlq hle hbg hQ
  dsimp only
  go_step
  go_loopg [16] 5 (fun gk v wt => ∃ n : Nat, n ≤ 6 ∧ gk = 6 - n ∧ v = .int .i64 n ∧ Below wb.heap.size wb wt)
  case atStart => exact ⟨1, by omega, rfl, rfl, HBG.out⟩
  case round =>
  obtain ⟨n, hn, rfl, rfl, hbt⟩ := hrel
  have HBT := Lib.hid hbt
  by_cases hn5 : n ≤ 5
  · have k1 : (n : Int) ≤ 5 := by omega
    have hkeep : ∀ W, Below wr.heap.size wr W → (W.cell? ⟨X, 0, none⟩ = some (.int .i64 p.nodes) ∧ W.cell? ⟨X, 1, none⟩ = some (.int .i64 p.copies) ∧ W.cell? ⟨X, 2, none⟩ = some (.slice pa1 p.parts.length pc1) ∧ W.cell? ⟨X, 3, none⟩ = some (.slice la1 p.lives.length lc1)) ∧ (W.cell? ⟨Y, 0, none⟩ = some (.int .i64 q.nodes) ∧ W.cell? ⟨Y, 1, none⟩ = some (.int .i64 q.copies) ∧ W.cell? ⟨Y, 2, none⟩ = some (.slice pa2 q.parts.length pc2) ∧ W.cell? ⟨Y, 3, none⟩ = some (.slice la2 q.lives.length lc2)) := by
      intro W hW
      have hb := HBT.out.trans (hW.mono HBT.out.size)
      obtain ⟨x0, x1, x2, x3, -⟩ := HX.out W hb
      obtain ⟨y0, y1, y2, y3, -⟩ := HY.out W hb
      exact ⟨⟨x0, x1, x2, x3⟩, ⟨y0, y1, y2, y3⟩⟩
    obtain ⟨⟨x0, x1, x2, x3⟩, ⟨y0, y1, y2, y3⟩⟩ := hkeep wr (Below.refl _ _)
    obtain ⟨lp, hlp⟩ : ∃ lp, lifeP p.lives n = lp := ⟨_, rfl⟩
    obtain ⟨lq, hlq⟩ : ∃ lq, lifeP q.lives n = lq := ⟨_, rfl⟩
    have hle : ¬ lq < lp := by have := HLE.out n; rw [hlp, hlq] at this; omega
    have hl1 : ∀ W, Below wr.heap.size wr W → Calls Tryd.prog 15 #[.agg #[.int .i64 p.nodes, .int .i64 p.copies, .slice pa1 p.parts.length pc1, .slice la1 p.lives.length lc1], .int .i64 (n : Int)] W fun e w' => e = .returned (.int .i64 lp) ∧ Below wr.heap.size wr w' := by
      intro W hW
      have hb := HBT.out.trans (hW.mono HBT.out.size)
      refine (Life_any (HX.out W hb).2.2.2.2 HP.out.1 HP.out.2.2.1 n).mono ?_
      rintro e w' ⟨rfl, h⟩
      exact ⟨by rw [hlp], hW.trans (h.mono hW.size)⟩
    have hl2 : ∀ W, Below wr.heap.size wr W → Calls Tryd.prog 15 #[.agg #[.int .i64 q.nodes, .int .i64 q.copies, .slice pa2 q.parts.length pc2, .slice la2 q.lives.length lc2], .int .i64 (n : Int)] W fun e w' => e = .returned (.int .i64 lq) ∧ Below wr.heap.size wr w' := by
      intro W hW
      have hb := HBT.out.trans (hW.mono HBT.out.size)
      refine (Life_any (HY.out W hb).2.2.2.2 HP.out.2.1 HP.out.2.2.2 n).mono ?_
      rintro e w' ⟨rfl, h⟩
      exact ⟨by rw [hlq], hW.trans (h.mono hW.size)⟩
    have HK := Lib.hid hkeep
    have HL1 := Lib.hid hl1
    have HL2 := Lib.hid hl2
    clear hkeep hl1 hl2 hlp hlq hbt
    go_upto_region 33 with fail
    go_region_held3 (fun w' => (w'.cell? ⟨X, 0, none⟩ = some (.int .i64 p.nodes) ∧ w'.cell? ⟨X, 1, none⟩ = some (.int .i64 p.copies) ∧ w'.cell? ⟨X, 2, none⟩ = some (.slice pa1 p.parts.length pc1) ∧ w'.cell? ⟨X, 3, none⟩ = some (.slice la1 p.lives.length lc1)) ∧ (w'.cell? ⟨Y, 0, none⟩ = some (.int .i64 q.nodes) ∧ w'.cell? ⟨Y, 1, none⟩ = some (.int .i64 q.copies) ∧ w'.cell? ⟨Y, 2, none⟩ = some (.slice pa2 q.parts.length pc2) ∧ w'.cell? ⟨Y, 3, none⟩ = some (.slice la2 q.lives.length lc2)))
      (first | with_reducible exact HK.out _ (Below.refl _ _) | with_reducible exact HK.out _ (Below.refl _ _).drew | (have hg := hbw; first | with_reducible exact HK.out _ hbw | with_reducible exact HK.out _ hbw.drew))
      (first
        | (go_at_call 15; with_reducible refine (HL1.out _ ?_).mono ?_; (first | with_reducible exact (Below.refl _ _).drew | with_reducible exact Below.refl _ _ | (have hg := hbw; first | with_reducible exact hbw | with_reducible exact hbw.drew)); rintro e w2 ⟨rfl, hbw⟩)
        | (go_at_call 15; with_reducible refine (HL2.out _ ?_).mono ?_; (first | with_reducible exact (Below.refl _ _).drew | with_reducible exact Below.refl _ _ | (have hg := hbw; first | with_reducible exact hbw | with_reducible exact hbw.drew)); rintro e w2 ⟨rfl, hbw⟩))
    all_goals
      go_wp2
      go_roundg (6 - (n + 1))
      case measure => omega
      case rel => exact ⟨n + 1, by omega, rfl, by go_num, HBT.out.trans (hbw.mono HBT.out.size)⟩
  · have k1 : ¬ (n : Int) ≤ 5 := by omega
    go_wp2
    refine HQ.out _ _ ?_
    repeat apply Exists.intro
    exact ⟨HBT.out, rfl⟩
end Go.Proofs.YtjkobbmdemooaaaDoor
