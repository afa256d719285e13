/- FlockTurns: the loop over the partitions. -/
import Derived.Test.YtdchjepahgecgaaGreatDoorMq42
import Derived.Test.YtdchjepahgecgaaGreatDoorSub
import Derived.Deep.DeepCutAuto
import Derived.BigQuiet
namespace Go.Proofs.YtdchjepahgecgaaGreatDoor
open Go.RowKit

set_option maxRecDepth 100000 in
set_option maxHeartbeats 8000000 in
theorem turns_b6 {c : Code} (hc : Tryz.f4.body.bind (subB 6) = some c) {W : World} {qb sb nb rb : Nat} {q : Rq} {W1 V : Fk} {R : Rs} {ma pa na oa ra : Option Addr} {mc pc nc oc rc : Nat}
    (hq : RqAt W qb 0 q) (hs : GrpAt W sb W1 ma mc pa pc) (hn : GrpAt W nb V na nc oa oc) {his : Bool} (hp4 : V.parts ≤ 4) (hown : ∀ p, 1 ≤ p → p < V.parts → V.members ≠ [] → (ownerP V.parts V.members p).2 = true ∧ (ownerP V.parts V.members p).1 ∈ V.members)
    {J : Act → World → Prop} {E : Exit → Act → World → Prop} {u0 u1 u2 u3 u4 u5 u6 u7 u8 u9 u10 u11 u12 u15 u16 u17 u18 u19 u21 u22 u23 u24 u25 u26 u27 u28 u29 u30 u31 u32 u33 u34 u35 u36 u37 u38 u39 u40 u41 u42 u43 u44 u45 u46 u47 u48 u49 u50 u51 u52 u53 u54 u55 u56 u57 u58 u59 u60 u61 u62 u63 u64 u65 u66 u67 u68 u69 u70 u71 u72 u73 u74 u75 u76 u77 u78 u79 u80 u81 u82 u83 u84 u85 u86 u87 u88 u89 u90 u91 u92 u93 u94 u95 u96 u97 u98 u99 u100 u101 u102 u103 u104 u105 u106 u107 u108 u109 u110 u111 u112 u113 u114 u115 u116 u117 u118 u119 u120 u121 u122 u123 u124 u125 u126 u127 u128 u129 u130 u131 u132 u133 u134 u135 u136 u137 u138 u139 u140 u141 u142 u143 u144 u145 u146 u147 u148 u149 u150 u151 u152 u153 u154 u155 u156 u157 u158 u159 u160 u161 u162 u163 u164 u165 u166 u167 u168 u169 u170 u171 u172 u173 u174 u175 u176 u177 u178 u179 u180 u181 u182 u183 u184 u185 u186 u187 u188 u189 u190 u191 u192 u193 u194 u195 u196 u197 u198 u199 u200 u201 u202 u203 u204 u205 u206 u207 u208 u209 u210 u211 u212 u213 u214 u215 u216 u217 u218 u219 u220 u221 u222 u223 u224 u225 u226 u227 u228 u229 u230 u231 u232 u233 u234 u235 u236 u237 u238 u239 u240 u241 u242 u243 u244 u245 u246 u247 u248 u249 u250 u251 u252 u253 u254 u255 u256 u257 u258 u259 u260 u261 u262 u263 u264 u265 u266 u267 u268 u269 u270 u271 u272 u273 u274 : Value}
    (hJ : ∀ a' w', (∃ t4 t20 t21 t22 t241 t242 t243 t244 t245 t246 t247 t248 t249 t250 t251 t252 t253 t254 t255 t256 t257 t258 t259 t260 t261 t262 t263 t264 t265 t266 t267 t268 t269 t270 t271 t272 t273 : Value, Below W.heap.size W w' ∧ a' = { tmps := #[u0, u1, u2, u3, t4, u5, u6, u7, u8, u9, u10, u11, u12, .pointer (some ⟨nb, 0, none⟩), .bool his, u15, u16, u17, u18, u19, t20, t21, t22, u23, u24, u25, u26, u27, u28, u29, u30, u31, u32, u33, u34, u35, u36, u37, u38, u39, u40, u41, u42, u43, u44, u45, u46, u47, u48, u49, u50, u51, u52, u53, u54, u55, u56, u57, u58, u59, u60, u61, u62, u63, u64, u65, u66, u67, u68, u69, u70, u71, u72, u73, u74, u75, u76, u77, u78, u79, u80, u81, u82, u83, u84, u85, u86, u87, u88, u89, u90, u91, u92, u93, u94, u95, u96, u97, u98, u99, u100, u101, u102, u103, u104, u105, u106, u107, u108, u109, u110, u111, u112, u113, u114, u115, u116, u117, u118, u119, u120, u121, u122, u123, u124, u125, u126, u127, u128, u129, u130, u131, u132, u133, u134, u135, u136, u137, u138, u139, u140, u141, u142, u143, u144, u145, u146, u147, u148, u149, u150, u151, u152, u153, u154, u155, u156, u157, u158, u159, u160, u161, u162, u163, u164, u165, u166, u167, u168, u169, u170, u171, u172, u173, u174, u175, u176, u177, u178, u179, u180, u181, u182, u183, u184, u185, u186, u187, u188, u189, u190, u191, u192, u193, u194, u195, u196, u197, u198, u199, u200, u201, u202, u203, u204, u205, u206, u207, u208, u209, u210, u211, u212, u213, u214, u215, u216, u217, u218, u219, u220, u221, u222, u223, u224, u225, u226, u227, u228, u229, u230, u231, u232, u233, u234, u235, u236, u237, u238, u239, u240, t241, t242, t243, t244, t245, t246, t247, t248, t249, t250, t251, t252, t253, t254, t255, t256, t257, t258, t259, t260, t261, t262, t263, t264, t265, t266, t267, t268, t269, t270, t271, t272, t273, u274], defers := [] }) → J a' w') :
    Code.wp Tryz.prog c (Exit.then J E) { tmps := #[u0, u1, u2, u3, u4, u5, u6, u7, u8, u9, u10, u11, u12, .pointer (some ⟨nb, 0, none⟩), .bool his, u15, u16, u17, u18, u19, .int .i64 1, u21, u22, u23, u24, u25, u26, u27, u28, u29, u30, u31, u32, u33, u34, u35, u36, u37, u38, u39, u40, u41, u42, u43, u44, u45, u46, u47, u48, u49, u50, u51, u52, u53, u54, u55, u56, u57, u58, u59, u60, u61, u62, u63, u64, u65, u66, u67, u68, u69, u70, u71, u72, u73, u74, u75, u76, u77, u78, u79, u80, u81, u82, u83, u84, u85, u86, u87, u88, u89, u90, u91, u92, u93, u94, u95, u96, u97, u98, u99, u100, u101, u102, u103, u104, u105, u106, u107, u108, u109, u110, u111, u112, u113, u114, u115, u116, u117, u118, u119, u120, u121, u122, u123, u124, u125, u126, u127, u128, u129, u130, u131, u132, u133, u134, u135, u136, u137, u138, u139, u140, u141, u142, u143, u144, u145, u146, u147, u148, u149, u150, u151, u152, u153, u154, u155, u156, u157, u158, u159, u160, u161, u162, u163, u164, u165, u166, u167, u168, u169, u170, u171, u172, u173, u174, u175, u176, u177, u178, u179, u180, u181, u182, u183, u184, u185, u186, u187, u188, u189, u190, u191, u192, u193, u194, u195, u196, u197, u198, u199, u200, u201, u202, u203, u204, u205, u206, u207, u208, u209, u210, u211, u212, u213, u214, u215, u216, u217, u218, u219, u220, u221, u222, u223, u224, u225, u226, u227, u228, u229, u230, u231, u232, u233, u234, u235, u236, u237, u238, u239, u240, u241, u242, u243, u244, u245, u246, u247, u248, u249, u250, u251, u252, u253, u254, u255, u256, u257, u258, u259, u260, u261, u262, u263, u264, u265, u266, u267, u268, u269, u270, u271, u272, u273, u274], defers := [] } W := by
  obtain rfl := Option.some.inj ((rfl : Tryz.f4.body.bind (subB 6) = some _).symm.trans hc)
  have HJ := Lib.hid hJ
  clear hc hJ
  dsimp only
  have hk : ∀ W', Below W.heap.size W W' → GrpAt W' nb V na nc oa oc := fun W' hb => hn.below hb
  have hml : (V.members.length : Int) ≤ 9223372036854775807 := by
    have h1 := Rd.maxlen hn.2.1
    have : maxLen = 9223372036854775807 := rfl
    omega
  have HK := Lib.hid hk
  have HO := Lib.hid hown
  clear hq hs hn hk hown
  go_wp2
  go_loopg [20] 5 (fun gk i wr => ∃ p : Int, 1 ≤ p ∧ p ≤ 5 ∧ gk = (6 - p).toNat ∧ i = .int .i64 p ∧ Below W.heap.size W wr)
  case atStart => exact ⟨1, by omega, by omega, rfl, rfl, Below.refl _ _⟩
  case round =>
    obtain ⟨p, hp1, hp5, rfl, rfl, hbel⟩ := hrel
    have hszr := hbel.size
    have hn0 := HK.out _ hbel
    obtain ⟨n0, n1, n2, n3, n4⟩ := hn0.cells
    have HB := Lib.hid hbel
    by_cases hlt : p < V.parts
    · cases his with
      | false =>
        clear hn0 hbel
        go_wp2
        refine HJ.out _ _ ?_
        repeat apply Exists.intro
        exact ⟨HB.out, rfl⟩
      | true =>
        by_cases hne : V.members = []
        · have hl0 : ¬ (0 : Int) < (V.members.length : Int) := by rw [hne]; decide
          clear hn0 hbel hne
          go_wp2
          refine HJ.out _ _ ?_
          repeat apply Exists.intro
          exact ⟨HB.out, rfl⟩
        · have hl0 : (0 : Int) < (V.members.length : Int) := by have := List.length_pos_iff.2 hne; omega
          obtain ⟨o1, o2⟩ := HO.out p hp1 hlt hne
          have how := SOwner_any hn0.2.1 V.parts p
          rw [o1] at how
          generalize (ownerP V.parts V.members p).1 = ow at *
          have hmb : ∀ W', Below wr.heap.size wr W' → Calls Tryz.prog 17 #[.slice na V.members.length nc, .string (bs ow)] W' fun e w' => e = .returned (.bool true) ∧ w' = W' := by
            intro W' hb'
            have := member_any (HK.out _ (HB.out.trans (hb'.mono hszr))).2.1 ow
            rw [any_mem, decide_eq_true o2] at this
            exact this
          have HOW := Lib.hid how
          have HMB := Lib.hid hmb
          have hnn : ∀ W', Below wr.heap.size wr W' → W'.cell? ⟨nb, 3, none⟩ = some (.slice na V.members.length nc) := fun W' hb' => ((HK.out _ (HB.out.trans (hb'.mono hszr))).cells).2.2.2.1
          have HNN := Lib.hid hnn
          clear how hmb hnn hn0 hbel o1 o2 hne
          go_wp2_with (first
            | (go_at_call 18; refine HOW.out.mono ?_; rintro _ w2 ⟨rfl, hb2⟩; have m3 := HNN.out _ hb2; have H2 := Lib.hid hb2; clear hb2)
            | (go_at_call 17; refine (HMB.out _ H2.out).mono ?_; rintro _ w3 ⟨rfl, rfl⟩))
          go_roundg ((6 - (p + 1)).toNat)
          case measure => omega
          case rel => exact ⟨p + 1, by omega, by omega, rfl, by go_num, HB.out.trans (H2.out.mono hszr)⟩
    · clear hn0 hbel
      go_wp2
      refine HJ.out _ _ ?_
      repeat apply Exists.intro
      exact ⟨HB.out, rfl⟩
end Go.Proofs.YtdchjepahgecgaaGreatDoor
