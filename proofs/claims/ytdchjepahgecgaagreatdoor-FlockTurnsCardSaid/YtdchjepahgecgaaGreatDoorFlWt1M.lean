/- FlockTurns: the tests on the generation, the members, the partitions. -/
import Derived.Test.YtdchjepahgecgaaGreatDoorMq42
import Derived.Test.YtdchjepahgecgaaGreatDoorSub
import Derived.Deep.DeepCutAuto
import Derived.BigQuiet
namespace Go.Proofs.YtdchjepahgecgaaGreatDoor
open Go.RowKit

set_option maxRecDepth 100000 in
set_option maxHeartbeats 8000000 in
theorem turns_r19 {c : Code} (hc : Tryz.f4.body.bind (subR 19) = some c) {W : World} {qb sb nb rb : Nat} {q : Rq} {W1 V : Fk} {R : Rs} {ma pa na oa ra : Option Addr} {mc pc nc oc rc : Nat}
    (hq : RqAt W qb 0 q) (hs : GrpAt W sb W1 ma mc pa pc) (hn : GrpAt W nb V na nc oa oc) (hr : W.heap[rb]? = some (R.box ra rc)) {N L : List Fk} {pp : Int} (hT : TurnOk W1 V N L R pp q) {tn : Bool} (htn : decide (V.gen = W1.gen + 1) = tn)
    {J : Act → World → Prop} {E : Exit → Act → World → Prop} {u0 u1 u2 u3 u4 u5 u6 u8 u9 u12 u14 u16 u17 u18 u19 u20 u21 u22 u23 u24 u25 u26 u27 u28 u29 u30 u31 u32 u33 u34 u35 u36 u37 u38 u39 u40 u41 u42 u43 u44 u45 u46 u47 u48 u49 u50 u51 u52 u53 u54 u55 u56 u57 u58 u59 u60 u61 u62 u63 u64 u65 u66 u67 u68 u69 u70 u71 u72 u73 u74 u75 u76 u77 u78 u79 u80 u81 u82 u83 u84 u85 u86 u87 u88 u89 u90 u91 u92 u93 u94 u95 u96 u97 u98 u99 u100 u101 u102 u103 u104 u105 u106 u107 u108 u109 u110 u111 u112 u113 u114 u115 u116 u117 u118 u119 u120 u121 u122 u123 u124 u125 u126 u127 u128 u129 u130 u131 u132 u133 u134 u135 u136 u137 u138 u139 u140 u141 u142 u143 u144 u145 u146 u147 u148 u149 u150 u151 u152 u153 u154 u155 u156 u157 u158 u159 u160 u161 u162 u163 u164 u165 u166 u167 u168 u169 u170 u171 u172 u173 u174 u175 u176 u177 u178 u179 u180 u181 u182 u183 u184 u185 u186 u187 u188 u189 u190 u191 u192 u193 u194 u195 u196 u197 u198 u199 u200 u201 u202 u203 u204 u205 u206 u207 u208 u209 u210 u211 u212 u213 u214 u215 u216 u217 u218 u219 u220 u221 u222 u223 u224 u225 u226 u227 u228 u229 u230 u231 u232 u233 u234 u235 u236 u237 u238 u239 u240 u241 u242 u243 u244 u245 u246 u247 u248 u249 u250 u251 u252 u253 u254 u255 u256 u257 u258 u259 u260 u261 u262 u263 u264 u265 u266 u267 u268 u269 u270 u271 u272 u273 u274 : Value}
    (hJ : ∀ a' w', (∃ t84 t85 t86 t87 t88 t89 t90 t91 t92 t93 t94 t95 t96 t97 t98 t99 t100 t101 t102 t103 t104 t105 t106 t107 t108 t109 t110 t111 t112 t113 t114 t115 t116 : Value, w' = W ∧ a' = { tmps := #[u0, u1, u2, u3, u4, u5, u6, .pointer (some ⟨qb, 0, none⟩), u8, u9, .pointer (some ⟨rb, 0, none⟩), .pointer (some ⟨sb, 0, none⟩), u12, .pointer (some ⟨nb, 0, none⟩), u14, .bool tn, u16, u17, u18, u19, u20, u21, u22, u23, u24, u25, u26, u27, u28, u29, u30, u31, u32, u33, u34, u35, u36, u37, u38, u39, u40, u41, u42, u43, u44, u45, u46, u47, u48, u49, u50, u51, u52, u53, u54, u55, u56, u57, u58, u59, u60, u61, u62, u63, u64, u65, u66, u67, u68, u69, u70, u71, u72, u73, u74, u75, u76, u77, u78, u79, u80, u81, u82, u83, t84, t85, t86, t87, t88, t89, t90, t91, t92, t93, t94, t95, t96, t97, t98, t99, t100, t101, t102, t103, t104, t105, t106, t107, t108, t109, t110, t111, t112, t113, t114, t115, t116, .bool false, u118, u119, u120, u121, u122, u123, u124, u125, u126, u127, u128, u129, u130, u131, u132, u133, u134, u135, u136, u137, u138, u139, u140, u141, u142, u143, u144, u145, u146, u147, u148, u149, u150, u151, u152, u153, u154, u155, u156, u157, u158, u159, u160, u161, u162, u163, u164, u165, u166, u167, u168, u169, u170, u171, u172, u173, u174, u175, u176, u177, u178, u179, u180, u181, u182, u183, u184, u185, u186, u187, u188, u189, u190, u191, u192, u193, u194, u195, u196, u197, u198, u199, u200, u201, u202, u203, u204, u205, u206, u207, u208, u209, u210, u211, u212, u213, u214, u215, u216, u217, u218, u219, u220, u221, u222, u223, u224, u225, u226, u227, u228, u229, u230, u231, u232, u233, u234, u235, u236, u237, u238, u239, u240, u241, u242, u243, u244, u245, u246, u247, u248, u249, u250, u251, u252, u253, u254, u255, u256, u257, u258, u259, u260, u261, u262, u263, u264, u265, u266, u267, u268, u269, u270, u271, u272, u273, u274], defers := [] }) → J a' w') :
    Code.wp Tryz.prog c (Exit.then J E) { tmps := #[u0, u1, u2, u3, u4, u5, u6, .pointer (some ⟨qb, 0, none⟩), u8, u9, .pointer (some ⟨rb, 0, none⟩), .pointer (some ⟨sb, 0, none⟩), u12, .pointer (some ⟨nb, 0, none⟩), u14, .bool tn, u16, u17, u18, u19, u20, u21, u22, u23, u24, u25, u26, u27, u28, u29, u30, u31, u32, u33, u34, u35, u36, u37, u38, u39, u40, u41, u42, u43, u44, u45, u46, u47, u48, u49, u50, u51, u52, u53, u54, u55, u56, u57, u58, u59, u60, u61, u62, u63, u64, u65, u66, u67, u68, u69, u70, u71, u72, u73, u74, u75, u76, u77, u78, u79, u80, u81, u82, u83, u84, u85, u86, u87, u88, u89, u90, u91, u92, u93, u94, u95, u96, u97, u98, u99, u100, u101, u102, u103, u104, u105, u106, u107, u108, u109, u110, u111, u112, u113, u114, u115, u116, u117, u118, u119, u120, u121, u122, u123, u124, u125, u126, u127, u128, u129, u130, u131, u132, u133, u134, u135, u136, u137, u138, u139, u140, u141, u142, u143, u144, u145, u146, u147, u148, u149, u150, u151, u152, u153, u154, u155, u156, u157, u158, u159, u160, u161, u162, u163, u164, u165, u166, u167, u168, u169, u170, u171, u172, u173, u174, u175, u176, u177, u178, u179, u180, u181, u182, u183, u184, u185, u186, u187, u188, u189, u190, u191, u192, u193, u194, u195, u196, u197, u198, u199, u200, u201, u202, u203, u204, u205, u206, u207, u208, u209, u210, u211, u212, u213, u214, u215, u216, u217, u218, u219, u220, u221, u222, u223, u224, u225, u226, u227, u228, u229, u230, u231, u232, u233, u234, u235, u236, u237, u238, u239, u240, u241, u242, u243, u244, u245, u246, u247, u248, u249, u250, u251, u252, u253, u254, u255, u256, u257, u258, u259, u260, u261, u262, u263, u264, u265, u266, u267, u268, u269, u270, u271, u272, u273, u274], defers := [] } W := by
  obtain rfl := Option.some.inj ((rfl : Tryz.f4.body.bind (subR 19) = some _).symm.trans hc)
  have HJ := Lib.hid hJ
  clear hc hJ
  dsimp only
  have hjust := hT.just
  rw [htn] at hjust
  have htg : (V.gen == W1.gen) = !tn := by
    rw [← htn]
    rcases hT.rise with e | e
    · have : ¬ W1.gen = W1.gen + 1 := by omega
      rw [e]; simp [this]
    · have : ¬ W1.gen + 1 = W1.gen := by omega
      rw [e]; simp [this]
  have hmb1 := member_any hs.2.1 q.member
  have hmb2 := member_any hn.2.1 q.member
  rw [any_mem] at hmb1 hmb2
  obtain ⟨bc, hbc⟩ : ∃ b : Bool, (R.code == 0) = b := ⟨_, rfl⟩
  obtain ⟨b4, hb4⟩ : ∃ b : Bool, (q.kind == 4) = b := ⟨_, rfl⟩
  obtain ⟨b3, hb3⟩ : ∃ b : Bool, (q.kind == 3) = b := ⟨_, rfl⟩
  obtain ⟨m1, hm1⟩ : ∃ b : Bool, decide (q.member ∈ W1.members) = b := ⟨_, rfl⟩
  obtain ⟨m2, hm2⟩ : ∃ b : Bool, decide (q.member ∈ V.members) = b := ⟨_, rfl⟩
  rw [hm1] at hmb1 hjust
  rw [hm2] at hmb2
  have hj2 : tn = (bc && (b4 || (b3 && !m1))) := by
    rw [hjust]
    have e1 : decide (R.code = 0) = bc := by rw [← hbc]; by_cases e : R.code = 0 <;> simp [e]
    have e2 : decide (q.kind = 4) = b4 := by rw [← hb4]; by_cases e : q.kind = 4 <;> simp [e]
    have e3 : decide (q.kind = 3) = b3 := by rw [← hb3]; by_cases e : q.kind = 3 <;> simp [e]
    rw [e1, e2, e3]
  have hcame : bc = true → b3 = true → m2 = true ∧ (R.gen == V.gen) = true := by
    intro e1 e2
    rw [← hbc] at e1
    rw [← hb3] at e2
    obtain ⟨c1, c2⟩ := hT.came (by simpa using e1) (by simpa using e2)
    exact ⟨by rw [← hm2]; exact decide_eq_true c1, by simpa using c2⟩
  have hwent : bc = true → b4 = true → m2 = false := by
    intro e1 e2
    rw [← hbc] at e1
    rw [← hb4] at e2
    have c1 := hT.went (by simpa using e1) (by simpa using e2)
    rw [← hm2]; exact decide_eq_false c1
  have h34 : b3 = true → b4 = false := by
    intro e
    rw [← hb3] at e
    have : q.kind = 3 := by simpa using e
    rw [← hb4, this]; rfl
  have HM1 := Lib.hid hmb1
  have HM2 := Lib.hid hmb2
  obtain ⟨q2, q3, q5⟩ := resp_cells hr
  obtain ⟨x0, x1, x2, x3, x4, x5, x6, x7, x8, x9, x10⟩ := hq
  obtain ⟨s0, s1, s2, s3, s4⟩ := hs.cells
  obtain ⟨n0, n1, n2, n3, n4⟩ := hn.cells
  clear hs hn hr hT htn hjust hmb1 hmb2 hm1 hm2 hcame hwent
  generalize V.gen = vg at *
  generalize W1.gen = wg at *
  cases bc with
  | false =>
    have e : tn = false := hj2
    subst e
    have e2 : vg = wg := by simpa using htg
    subst e2
    clear hj2 h34
    go_wp2
    refine HJ.out _ _ ?_
    repeat apply Exists.intro
    exact ⟨rfl, rfl⟩
  | true =>
    cases b4 with
    | true =>
      have e : tn = true := hj2
      subst e
      have htg2 : (vg == wg) = false := htg
      have hne2 : ¬ vg = wg := by simpa using htg2
      clear htg
      clear hj2 h34
      go_wp2
      refine HJ.out _ _ ?_
      repeat apply Exists.intro
      exact ⟨rfl, rfl⟩
    | false =>
      cases b3 with
      | false =>
        have e : tn = false := hj2
        subst e
        have e2 : vg = wg := by simpa using htg
        subst e2
        clear hj2 h34
        go_wp2
        refine HJ.out _ _ ?_
        repeat apply Exists.intro
        exact ⟨rfl, rfl⟩
      | true =>
        have e : tn = !m1 := by rw [hj2]; rfl
        subst e
        clear hj2 h34
        cases m1 with
        | false =>
          have htg2 : (vg == wg) = false := htg
          have hne2 : ¬ vg = wg := by simpa using htg2
          clear htg
          go_wp2_with (first | (go_at_call 17; refine HM1.out.mono ?_; rintro _ wm ⟨rfl, rfl⟩))
          refine HJ.out _ _ ?_
          repeat apply Exists.intro
          exact ⟨rfl, rfl⟩
        | true =>
          have e2 : vg = wg := by simpa using htg
          subst e2
          go_wp2_with (first | (go_at_call 17; refine HM1.out.mono ?_; rintro _ wm ⟨rfl, rfl⟩))
          refine HJ.out _ _ ?_
          repeat apply Exists.intro
          exact ⟨rfl, rfl⟩

set_option maxRecDepth 100000 in
set_option maxHeartbeats 8000000 in
theorem turns_r21 {c : Code} (hc : Tryz.f4.body.bind (subR 21) = some c) {W : World} {qb sb nb rb : Nat} {q : Rq} {W1 V : Fk} {R : Rs} {ma pa na oa ra : Option Addr} {mc pc nc oc rc : Nat}
    (hq : RqAt W qb 0 q) (hs : GrpAt W sb W1 ma mc pa pc) (hn : GrpAt W nb V na nc oa oc) (hr : W.heap[rb]? = some (R.box ra rc)) {N L : List Fk} {pp : Int} (hT : TurnOk W1 V N L R pp q) {tn : Bool} (htn : decide (V.gen = W1.gen + 1) = tn)
    {J : Act → World → Prop} {E : Exit → Act → World → Prop} {u0 u1 u2 u3 u4 u5 u6 u8 u9 u12 u14 u15 u16 u17 u18 u19 u20 u21 u22 u23 u24 u25 u26 u27 u28 u29 u30 u31 u32 u33 u34 u35 u36 u37 u38 u39 u40 u41 u42 u43 u44 u45 u46 u47 u48 u49 u50 u51 u52 u53 u54 u55 u56 u57 u58 u59 u60 u61 u62 u63 u64 u65 u66 u67 u68 u69 u70 u71 u72 u73 u74 u75 u76 u77 u78 u79 u80 u81 u82 u83 u84 u85 u86 u87 u88 u89 u90 u91 u92 u93 u94 u95 u96 u97 u98 u99 u100 u101 u102 u103 u104 u105 u106 u107 u108 u109 u110 u111 u112 u113 u114 u115 u116 u117 u118 u119 u120 u121 u122 u123 u124 u125 u126 u127 u128 u129 u130 u131 u132 u133 u134 u135 u136 u137 u138 u139 u140 u141 u142 u143 u144 u145 u146 u147 u148 u149 u150 u151 u152 u153 u154 u155 u156 u157 u158 u159 u160 u161 u162 u163 u164 u165 u166 u167 u168 u169 u170 u171 u172 u173 u174 u175 u176 u177 u178 u179 u180 u181 u182 u183 u184 u185 u186 u187 u188 u189 u190 u191 u192 u193 u194 u195 u196 u197 u198 u199 u200 u201 u202 u203 u204 u205 u206 u207 u208 u209 u210 u211 u212 u213 u214 u215 u216 u217 u218 u219 u220 u221 u222 u223 u224 u225 u226 u227 u228 u229 u230 u231 u232 u233 u234 u235 u236 u237 u238 u239 u240 u241 u242 u243 u244 u245 u246 u247 u248 u249 u250 u251 u252 u253 u254 u255 u256 u257 u258 u259 u260 u261 u262 u263 u264 u265 u266 u267 u268 u269 u270 u271 u272 u273 u274 : Value}
    (hJ : ∀ a' w', (∃ t118 t119 t120 t121 t122 t123 t124 t125 t126 t127 t128 t129 t130 t131 t132 t133 t134 t135 t136 t137 t138 t139 t140 t141 t142 t143 t144 t145 t146 t147 t148 t149 t150 t151 t152 t153 t154 t155 t156 : Value, w' = W ∧ a' = { tmps := #[u0, u1, u2, u3, u4, u5, u6, .pointer (some ⟨qb, 0, none⟩), u8, u9, .pointer (some ⟨rb, 0, none⟩), .pointer (some ⟨sb, 0, none⟩), u12, .pointer (some ⟨nb, 0, none⟩), u14, u15, u16, u17, u18, u19, u20, u21, u22, u23, u24, u25, u26, u27, u28, u29, u30, u31, u32, u33, u34, u35, u36, u37, u38, u39, u40, u41, u42, u43, u44, u45, u46, u47, u48, u49, u50, u51, u52, u53, u54, u55, u56, u57, u58, u59, u60, u61, u62, u63, u64, u65, u66, u67, u68, u69, u70, u71, u72, u73, u74, u75, u76, u77, u78, u79, u80, u81, u82, u83, u84, u85, u86, u87, u88, u89, u90, u91, u92, u93, u94, u95, u96, u97, u98, u99, u100, u101, u102, u103, u104, u105, u106, u107, u108, u109, u110, u111, u112, u113, u114, u115, u116, u117, t118, t119, t120, t121, t122, t123, t124, t125, t126, t127, t128, t129, t130, t131, t132, t133, t134, t135, t136, t137, t138, t139, t140, t141, t142, t143, t144, t145, t146, t147, t148, t149, t150, t151, t152, t153, t154, t155, t156, .bool false, u158, u159, u160, u161, u162, u163, u164, u165, u166, u167, u168, u169, u170, u171, u172, u173, u174, u175, u176, u177, u178, u179, u180, u181, u182, u183, u184, u185, u186, u187, u188, u189, u190, u191, u192, u193, u194, u195, u196, u197, u198, u199, u200, u201, u202, u203, u204, u205, u206, u207, u208, u209, u210, u211, u212, u213, u214, u215, u216, u217, u218, u219, u220, u221, u222, u223, u224, u225, u226, u227, u228, u229, u230, u231, u232, u233, u234, u235, u236, u237, u238, u239, u240, u241, u242, u243, u244, u245, u246, u247, u248, u249, u250, u251, u252, u253, u254, u255, u256, u257, u258, u259, u260, u261, u262, u263, u264, u265, u266, u267, u268, u269, u270, u271, u272, u273, u274], defers := [] }) → J a' w') :
    Code.wp Tryz.prog c (Exit.then J E) { tmps := #[u0, u1, u2, u3, u4, u5, u6, .pointer (some ⟨qb, 0, none⟩), u8, u9, .pointer (some ⟨rb, 0, none⟩), .pointer (some ⟨sb, 0, none⟩), u12, .pointer (some ⟨nb, 0, none⟩), u14, u15, u16, u17, u18, u19, u20, u21, u22, u23, u24, u25, u26, u27, u28, u29, u30, u31, u32, u33, u34, u35, u36, u37, u38, u39, u40, u41, u42, u43, u44, u45, u46, u47, u48, u49, u50, u51, u52, u53, u54, u55, u56, u57, u58, u59, u60, u61, u62, u63, u64, u65, u66, u67, u68, u69, u70, u71, u72, u73, u74, u75, u76, u77, u78, u79, u80, u81, u82, u83, u84, u85, u86, u87, u88, u89, u90, u91, u92, u93, u94, u95, u96, u97, u98, u99, u100, u101, u102, u103, u104, u105, u106, u107, u108, u109, u110, u111, u112, u113, u114, u115, u116, u117, u118, u119, u120, u121, u122, u123, u124, u125, u126, u127, u128, u129, u130, u131, u132, u133, u134, u135, u136, u137, u138, u139, u140, u141, u142, u143, u144, u145, u146, u147, u148, u149, u150, u151, u152, u153, u154, u155, u156, u157, u158, u159, u160, u161, u162, u163, u164, u165, u166, u167, u168, u169, u170, u171, u172, u173, u174, u175, u176, u177, u178, u179, u180, u181, u182, u183, u184, u185, u186, u187, u188, u189, u190, u191, u192, u193, u194, u195, u196, u197, u198, u199, u200, u201, u202, u203, u204, u205, u206, u207, u208, u209, u210, u211, u212, u213, u214, u215, u216, u217, u218, u219, u220, u221, u222, u223, u224, u225, u226, u227, u228, u229, u230, u231, u232, u233, u234, u235, u236, u237, u238, u239, u240, u241, u242, u243, u244, u245, u246, u247, u248, u249, u250, u251, u252, u253, u254, u255, u256, u257, u258, u259, u260, u261, u262, u263, u264, u265, u266, u267, u268, u269, u270, u271, u272, u273, u274], defers := [] } W := by
  obtain rfl := Option.some.inj ((rfl : Tryz.f4.body.bind (subR 21) = some _).symm.trans hc)
  have HJ := Lib.hid hJ
  clear hc hJ
  dsimp only
  have hjust := hT.just
  rw [htn] at hjust
  have htg : (V.gen == W1.gen) = !tn := by
    rw [← htn]
    rcases hT.rise with e | e
    · have : ¬ W1.gen = W1.gen + 1 := by omega
      rw [e]; simp [this]
    · have : ¬ W1.gen + 1 = W1.gen := by omega
      rw [e]; simp [this]
  have hmb1 := member_any hs.2.1 q.member
  have hmb2 := member_any hn.2.1 q.member
  rw [any_mem] at hmb1 hmb2
  obtain ⟨bc, hbc⟩ : ∃ b : Bool, (R.code == 0) = b := ⟨_, rfl⟩
  obtain ⟨b4, hb4⟩ : ∃ b : Bool, (q.kind == 4) = b := ⟨_, rfl⟩
  obtain ⟨b3, hb3⟩ : ∃ b : Bool, (q.kind == 3) = b := ⟨_, rfl⟩
  obtain ⟨m1, hm1⟩ : ∃ b : Bool, decide (q.member ∈ W1.members) = b := ⟨_, rfl⟩
  obtain ⟨m2, hm2⟩ : ∃ b : Bool, decide (q.member ∈ V.members) = b := ⟨_, rfl⟩
  rw [hm1] at hmb1 hjust
  rw [hm2] at hmb2
  have hj2 : tn = (bc && (b4 || (b3 && !m1))) := by
    rw [hjust]
    have e1 : decide (R.code = 0) = bc := by rw [← hbc]; by_cases e : R.code = 0 <;> simp [e]
    have e2 : decide (q.kind = 4) = b4 := by rw [← hb4]; by_cases e : q.kind = 4 <;> simp [e]
    have e3 : decide (q.kind = 3) = b3 := by rw [← hb3]; by_cases e : q.kind = 3 <;> simp [e]
    rw [e1, e2, e3]
  have hcame : bc = true → b3 = true → m2 = true ∧ (R.gen == V.gen) = true := by
    intro e1 e2
    rw [← hbc] at e1
    rw [← hb3] at e2
    obtain ⟨c1, c2⟩ := hT.came (by simpa using e1) (by simpa using e2)
    exact ⟨by rw [← hm2]; exact decide_eq_true c1, by simpa using c2⟩
  have hwent : bc = true → b4 = true → m2 = false := by
    intro e1 e2
    rw [← hbc] at e1
    rw [← hb4] at e2
    have c1 := hT.went (by simpa using e1) (by simpa using e2)
    rw [← hm2]; exact decide_eq_false c1
  have h34 : b3 = true → b4 = false := by
    intro e
    rw [← hb3] at e
    have : q.kind = 3 := by simpa using e
    rw [← hb4, this]; rfl
  have HM1 := Lib.hid hmb1
  have HM2 := Lib.hid hmb2
  obtain ⟨q2, q3, q5⟩ := resp_cells hr
  obtain ⟨x0, x1, x2, x3, x4, x5, x6, x7, x8, x9, x10⟩ := hq
  obtain ⟨s0, s1, s2, s3, s4⟩ := hs.cells
  obtain ⟨n0, n1, n2, n3, n4⟩ := hn.cells
  clear hs hn hr hT htn hjust hmb1 hmb2 hm1 hm2 htg hj2
  cases bc with
  | false =>
    clear hcame hwent h34
    go_wp2
    refine HJ.out _ _ ?_
    repeat apply Exists.intro
    exact ⟨rfl, rfl⟩
  | true =>
    cases b3 with
    | true =>
      have e4 := h34 rfl
      subst e4
      obtain ⟨e2, hgg⟩ := hcame rfl rfl
      subst e2
      clear hcame hwent h34
      generalize V.gen = vg at *
      generalize R.gen = rg at *
      have e2 : rg = vg := by simpa using hgg
      subst e2
      go_wp2_with (first | (go_at_call 17; refine HM2.out.mono ?_; rintro _ wm ⟨rfl, rfl⟩))
      refine HJ.out _ _ ?_
      repeat apply Exists.intro
      exact ⟨rfl, rfl⟩
    | false =>
      cases b4 with
      | true =>
        have e2 := hwent rfl rfl
        subst e2
        clear hcame hwent h34
        go_wp2_with (first | (go_at_call 17; refine HM2.out.mono ?_; rintro _ wm ⟨rfl, rfl⟩))
        refine HJ.out _ _ ?_
        repeat apply Exists.intro
        exact ⟨rfl, rfl⟩
      | false =>
        clear hcame hwent h34
        go_wp2
        refine HJ.out _ _ ?_
        repeat apply Exists.intro
        exact ⟨rfl, rfl⟩

set_option maxRecDepth 100000 in
set_option maxHeartbeats 8000000 in
theorem turns_r34 {c : Code} (hc : Tryz.f4.body.bind (subR 34) = some c) {W : World} {qb sb nb rb : Nat} {q : Rq} {W1 V : Fk} {R : Rs} {ma pa na oa ra : Option Addr} {mc pc nc oc rc : Nat}
    (hq : RqAt W qb 0 q) (hs : GrpAt W sb W1 ma mc pa pc) (hn : GrpAt W nb V na nc oa oc) (hr : W.heap[rb]? = some (R.box ra rc)) {N L : List Fk} {pp : Int} (hT : TurnOk W1 V N L R pp q) {tn : Bool} (htn : decide (V.gen = W1.gen + 1) = tn)
    {J : Act → World → Prop} {E : Exit → Act → World → Prop} {u1 u2 u3 u4 u5 u6 u7 u8 u9 u10 u12 u14 u16 u17 u18 u19 u20 u21 u22 u23 u24 u25 u26 u27 u28 u29 u30 u31 u32 u33 u34 u35 u36 u37 u38 u39 u40 u41 u42 u43 u44 u45 u46 u47 u48 u49 u50 u51 u52 u53 u54 u55 u56 u57 u58 u59 u60 u61 u62 u63 u64 u65 u66 u67 u68 u69 u70 u71 u72 u73 u74 u75 u76 u77 u78 u79 u80 u81 u82 u83 u84 u85 u86 u87 u88 u89 u90 u91 u92 u93 u94 u95 u96 u97 u98 u99 u100 u101 u102 u103 u104 u105 u106 u107 u108 u109 u110 u111 u112 u113 u114 u115 u116 u117 u118 u119 u120 u121 u122 u123 u124 u125 u126 u127 u128 u129 u130 u131 u132 u133 u134 u135 u136 u137 u138 u139 u140 u141 u142 u143 u144 u145 u146 u147 u148 u149 u150 u151 u152 u153 u154 u155 u156 u157 u158 u159 u160 u161 u162 u163 u164 u165 u166 u167 u168 u169 u170 u171 u172 u173 u174 u175 u176 u177 u178 u179 u180 u181 u182 u183 u184 u185 u186 u187 u188 u189 u190 u191 u192 u193 u194 u195 u196 u197 u198 u199 u200 u201 u202 u203 u204 u205 u206 u207 u208 u209 u210 u211 u212 u213 u214 u215 u216 u217 u218 u219 u220 u221 u222 u223 u224 u225 u226 u227 u228 u229 u230 u231 u232 u233 u234 u235 u236 u237 u238 u239 u240 u241 u242 u243 u244 u245 u246 u247 u248 u249 u250 u251 u252 u253 u254 u255 u256 u257 u258 u259 u260 u261 u262 u263 u264 u265 u266 u267 u268 u269 u270 u271 u272 u273 u274 : Value}
    (hJ : ∀ a' w', (∃ t223 t224 t225 t226 t227 t228 t229 t230 t231 t232 t233 t234 t235 t236 t237 t238 t239 : Value, w' = W ∧ a' = { tmps := #[.int .i64 pp, u1, u2, u3, u4, u5, u6, u7, u8, u9, u10, .pointer (some ⟨sb, 0, none⟩), u12, .pointer (some ⟨nb, 0, none⟩), u14, .bool tn, u16, u17, u18, u19, u20, u21, u22, u23, u24, u25, u26, u27, u28, u29, u30, u31, u32, u33, u34, u35, u36, u37, u38, u39, u40, u41, u42, u43, u44, u45, u46, u47, u48, u49, u50, u51, u52, u53, u54, u55, u56, u57, u58, u59, u60, u61, u62, u63, u64, u65, u66, u67, u68, u69, u70, u71, u72, u73, u74, u75, u76, u77, u78, u79, u80, u81, u82, u83, u84, u85, u86, u87, u88, u89, u90, u91, u92, u93, u94, u95, u96, u97, u98, u99, u100, u101, u102, u103, u104, u105, u106, u107, u108, u109, u110, u111, u112, u113, u114, u115, u116, u117, u118, u119, u120, u121, u122, u123, u124, u125, u126, u127, u128, u129, u130, u131, u132, u133, u134, u135, u136, u137, u138, u139, u140, u141, u142, u143, u144, u145, u146, u147, u148, u149, u150, u151, u152, u153, u154, u155, u156, u157, u158, u159, u160, u161, u162, u163, u164, u165, u166, u167, u168, u169, u170, u171, u172, u173, u174, u175, u176, u177, u178, u179, u180, u181, u182, u183, u184, u185, u186, u187, u188, u189, u190, u191, u192, u193, u194, u195, u196, u197, u198, u199, u200, u201, u202, u203, u204, u205, u206, u207, u208, u209, u210, u211, u212, u213, u214, u215, u216, u217, u218, u219, u220, u221, u222, t223, t224, t225, t226, t227, t228, t229, t230, t231, t232, t233, t234, t235, t236, t237, t238, t239, .bool false, u241, u242, u243, u244, u245, u246, u247, u248, u249, u250, u251, u252, u253, u254, u255, u256, u257, u258, u259, u260, u261, u262, u263, u264, u265, u266, u267, u268, u269, u270, u271, u272, u273, u274], defers := [] }) → J a' w') :
    Code.wp Tryz.prog c (Exit.then J E) { tmps := #[.int .i64 pp, u1, u2, u3, u4, u5, u6, u7, u8, u9, u10, .pointer (some ⟨sb, 0, none⟩), u12, .pointer (some ⟨nb, 0, none⟩), u14, .bool tn, u16, u17, u18, u19, u20, u21, u22, u23, u24, u25, u26, u27, u28, u29, u30, u31, u32, u33, u34, u35, u36, u37, u38, u39, u40, u41, u42, u43, u44, u45, u46, u47, u48, u49, u50, u51, u52, u53, u54, u55, u56, u57, u58, u59, u60, u61, u62, u63, u64, u65, u66, u67, u68, u69, u70, u71, u72, u73, u74, u75, u76, u77, u78, u79, u80, u81, u82, u83, u84, u85, u86, u87, u88, u89, u90, u91, u92, u93, u94, u95, u96, u97, u98, u99, u100, u101, u102, u103, u104, u105, u106, u107, u108, u109, u110, u111, u112, u113, u114, u115, u116, u117, u118, u119, u120, u121, u122, u123, u124, u125, u126, u127, u128, u129, u130, u131, u132, u133, u134, u135, u136, u137, u138, u139, u140, u141, u142, u143, u144, u145, u146, u147, u148, u149, u150, u151, u152, u153, u154, u155, u156, u157, u158, u159, u160, u161, u162, u163, u164, u165, u166, u167, u168, u169, u170, u171, u172, u173, u174, u175, u176, u177, u178, u179, u180, u181, u182, u183, u184, u185, u186, u187, u188, u189, u190, u191, u192, u193, u194, u195, u196, u197, u198, u199, u200, u201, u202, u203, u204, u205, u206, u207, u208, u209, u210, u211, u212, u213, u214, u215, u216, u217, u218, u219, u220, u221, u222, u223, u224, u225, u226, u227, u228, u229, u230, u231, u232, u233, u234, u235, u236, u237, u238, u239, u240, u241, u242, u243, u244, u245, u246, u247, u248, u249, u250, u251, u252, u253, u254, u255, u256, u257, u258, u259, u260, u261, u262, u263, u264, u265, u266, u267, u268, u269, u270, u271, u272, u273, u274], defers := [] } W := by
  obtain rfl := Option.some.inj ((rfl : Tryz.f4.body.bind (subR 34) = some _).symm.trans hc)
  have HJ := Lib.hid hJ
  clear hc hJ
  dsimp only
  obtain ⟨s0, s1, s2, s3, s4⟩ := hs.cells
  obtain ⟨n0, n1, n2, n3, n4⟩ := hn.cells
  cases tn with
  | true =>
    have e := hT.turned (of_decide_eq_true htn)
    clear hq hs hn hr hT htn
    generalize V.parts = vp at *
    subst e
    go_wp2
    refine HJ.out _ _ ?_
    repeat apply Exists.intro
    exact ⟨rfl, rfl⟩
  | false =>
    have e := hT.kept (of_decide_eq_false htn)
    clear hq hs hn hr hT htn
    generalize V.parts = vp at *
    generalize W1.parts = wp at *
    subst e
    go_wp2
    refine HJ.out _ _ ?_
    repeat apply Exists.intro
    exact ⟨rfl, rfl⟩

end Go.Proofs.YtdchjepahgecgaaGreatDoor
