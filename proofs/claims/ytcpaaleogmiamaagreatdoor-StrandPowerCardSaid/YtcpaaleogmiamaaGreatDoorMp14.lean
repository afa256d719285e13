/- The library's contracts at this dump's numbers (by the kit's lay-plain). -/
/- What is left of a text when the letters of a set are trimmed off its ends. -/
/- The library's contracts at this dump's numbers (by the kit's lay-plain). -/
/- The walks of a strand's names: file, base. -/
import Derived.Shelf.Strings.SlTrimAscii
import Derived.Ground.NamesProg
import Derived.Test.YtcpaaleogmiamaaGreatDoorProg
import Derived.Test.YtcpaaleogmiamaaGreatDoorMp3
import Derived.Shelf.Strings.Repeat
import Derived.Test.YtcpaaleogmiamaaGreatDoorMp13
namespace Go.Proofs.YtcpaaleogmiamaaGreatDoor
open Go.Shelf
def Tryz.laysTrim_ren : Go.Shelf.Ren := ⟨fun | 160 => 189 | 232 => 223 | 231 => 222 | 227 => 224 | 234 => 226 | 233 => 225 | 236 => 228 | 235 => 227 | 228 => 255 | 271 => 258 | 151 => 257 | 197 => 256 | 120 => 279 | 152 => 278 | 260 => 277 | 137 => 290 | 119 => 291 | 224 => 286 | 225 => 285 | 217 => 284 | 266 => 294 | n => n, fun | 9 => 9 | 4 => 4 | 3 => 3 | 5 => 5 | 117 => 277 | 116 => 276 | 0 => 0 | 124 => 280 | 21 => 21 | 105 => 302 | 46 => 54 | 119 => 331 | 139 => 334 | 138 => 333 | n => n, fun | 3 => 4 | 4 => 5 | n => n⟩
theorem Tryz.laysTrim : Go.Proofs.Lays.n160 Tryz.prog Tryz.laysTrim_ren := {
  mixed := by kernel_rfl
  f119 := Tryz.func291.trans (congrArg some (by kernel_rfl))
  f120 := Tryz.func279.trans (congrArg some (by kernel_rfl))
  f137 := Tryz.func290.trans (congrArg some (by kernel_rfl))
  f151 := Tryz.func257.trans (congrArg some (by kernel_rfl))
  f152 := Tryz.func278.trans (congrArg some (by kernel_rfl))
  f160 := Tryz.func189.trans (congrArg some (by kernel_rfl))
  f197 := Tryz.func256.trans (congrArg some (by kernel_rfl))
  f217 := Tryz.func284.trans (congrArg some (by kernel_rfl))
  f224 := Tryz.func286.trans (congrArg some (by kernel_rfl))
  f225 := Tryz.func285.trans (congrArg some (by kernel_rfl))
  f227 := Tryz.func224.trans (congrArg some (by kernel_rfl))
  f228 := Tryz.func255.trans (congrArg some (by kernel_rfl))
  f231 := Tryz.func222.trans (congrArg some (by kernel_rfl))
  f232 := Tryz.func223.trans (congrArg some (by kernel_rfl))
  f233 := Tryz.func225.trans (congrArg some (by kernel_rfl))
  f234 := Tryz.func226.trans (congrArg some (by kernel_rfl))
  f235 := Tryz.func227.trans (congrArg some (by kernel_rfl))
  f236 := Tryz.func228.trans (congrArg some (by kernel_rfl))
  f260 := Tryz.func277.trans (congrArg some (by kernel_rfl))
  f266 := Tryz.func294.trans (congrArg some (by kernel_rfl))
  f271 := Tryz.func258.trans (congrArg some (by kernel_rfl))
  t0 := Tryz.underlying0
  a0 := Tryz.isAgg0
  z0 := Tryz.sizeOf0
  v0 := Tryz.zeroValue0
  t3 := Tryz.underlying3
  a3 := Tryz.isAgg3
  z3 := Tryz.sizeOf3
  v3 := Tryz.zeroValue3
  t4 := Tryz.underlying4
  a4 := Tryz.isAgg4
  z4 := Tryz.sizeOf4
  v4 := Tryz.zeroValue4
  t5 := Tryz.underlying5
  a5 := Tryz.isAgg5
  z5 := Tryz.sizeOf5
  v5 := Tryz.zeroValue5
  t9 := Tryz.underlying9
  a9 := Tryz.isAgg9
  z9 := Tryz.sizeOf9
  v9 := Tryz.zeroValue9
  t21 := Tryz.underlying21
  a21 := Tryz.isAgg21
  z21 := Tryz.sizeOf21
  v21 := Tryz.zeroValue21
  t46 := Tryz.underlying54
  a46 := Tryz.isAgg54
  z46 := Tryz.sizeOf54
  v46 := Tryz.zeroValue54
  t105 := Tryz.underlying302
  a105 := Tryz.isAgg302
  z105 := Tryz.sizeOf302
  v105 := Tryz.zeroValue302
  t116 := Tryz.underlying276
  a116 := Tryz.isAgg276
  z116 := Tryz.sizeOf276
  t117 := Tryz.underlying277
  a117 := Tryz.isAgg277
  z117 := Tryz.sizeOf277
  v117 := Tryz.zeroValue277
  t119 := Tryz.underlying331
  a119 := Tryz.isAgg331
  z119 := Tryz.sizeOf331
  t124 := Tryz.underlying280
  a124 := Tryz.isAgg280
  z124 := Tryz.sizeOf280
  v124 := Tryz.zeroValue280
  t138 := Tryz.underlying333
  a138 := Tryz.isAgg333
  z138 := Tryz.sizeOf333
  v138 := Tryz.zeroValue333
  t139 := Tryz.underlying334
  a139 := Tryz.isAgg334
  z139 := Tryz.sizeOf334
  v139 := Tryz.zeroValue334
  g3 := by kernel_rfl
  g4 := by kernel_rfl }
end Go.Proofs.YtcpaaleogmiamaaGreatDoor
namespace Go.Proofs.YtcpaaleogmiamaaGreatDoor
open Go.RowKit

theorem dw_nil {p : UInt8 → Bool} : ∀ {l : List UInt8}, l.dropWhile p = [] ↔ ∀ x ∈ l, p x = true
  | [] => by simp
  | a :: l => by
    by_cases h : p a = true
    · rw [List.dropWhile_cons_of_pos h, dw_nil]; simp [h]
    · rw [List.dropWhile_cons_of_neg h]; simp [h]

theorem trim_nil (l cs : List UInt8) : Lib.trimS l cs = [] ↔ ∀ x ∈ l, cs.contains x = true := by
  unfold Lib.trimS Lib.trimLeftS Lib.trimRightS
  constructor
  · intro h x hx
    have h1 := dw_nil.1 h
    cases hr : l.reverse.dropWhile (cs.contains ·) with
    | nil => exact dw_nil.1 hr x (by simpa using hx)
    | cons a r =>
      have h2 : cs.contains a = true := h1 a (by rw [hr]; simp)
      have h3 := List.head?_dropWhile_not (cs.contains ·) l.reverse
      rw [hr] at h3
      simp only [List.head?_cons] at h3
      rw [h2] at h3
      cases h3
  · intro h
    have hr : l.reverse.dropWhile (cs.contains ·) = [] := dw_nil.2 (fun x hx => h x (by simpa using hx))
    rw [hr]
    rfl

theorem zero_ascii : (Tryz.prog.info? 276).bind (·.zero) = some (.agg (Array.replicate 256 (.bool false))) := by kernel_rfl
theorem size_ascii : (Tryz.prog.info? 276).map (·.size) = some 256 := by kernel_rfl
end Go.Proofs.YtcpaaleogmiamaaGreatDoor
namespace Go.Proofs.YtcpaaleogmiamaaGreatDoor
open Go.Shelf
def Tryz.laysRepeat_ren : Go.Shelf.Ren := ⟨fun | 105 => 148 | 212 => 184 | 99 => 185 | 165 => 186 | 166 => 145 | 170 => 187 | 169 => 146 | 263 => 217 | 264 => 218 | 206 => 219 | 240 => 182 | 241 => 220 | 276 => 215 | 277 => 254 | n => n, fun | 9 => 9 | 3 => 3 | 4 => 4 | 20 => 20 | 0 => 0 | 46 => 54 | 109 => 242 | 5 => 5 | 72 => 212 | 76 => 215 | 51 => 223 | 146 => 270 | 53 => 249 | 148 => 272 | 70 => 209 | 37 => 210 | 75 => 214 | 127 => 241 | 164 => 267 | 80 => 169 | n => n, fun | n => n⟩
theorem Tryz.laysRepeat : Go.Proofs.Lays.n105 Tryz.prog Tryz.laysRepeat_ren := {
  mixed := by kernel_rfl
  f99 := Tryz.func185.trans (congrArg some (by kernel_rfl))
  f105 := Tryz.func148.trans (congrArg some (by kernel_rfl))
  f165 := Tryz.func186.trans (congrArg some (by kernel_rfl))
  f166 := Tryz.func145.trans (congrArg some (by kernel_rfl))
  f169 := Tryz.func146.trans (congrArg some (by kernel_rfl))
  f170 := Tryz.func187.trans (congrArg some (by kernel_rfl))
  f206 := Tryz.func219.trans (congrArg some (by kernel_rfl))
  f212 := Tryz.func184.trans (congrArg some (by kernel_rfl))
  f240 := Tryz.func182.trans (congrArg some (by kernel_rfl))
  f241 := Tryz.func220.trans (congrArg some (by kernel_rfl))
  f263 := Tryz.func217.trans (congrArg some (by kernel_rfl))
  f264 := Tryz.func218.trans (congrArg some (by kernel_rfl))
  f276 := Tryz.func215.trans (congrArg some (by kernel_rfl))
  f277 := Tryz.func254.trans (congrArg some (by kernel_rfl))
  t0 := Tryz.underlying0
  a0 := Tryz.isAgg0
  z0 := Tryz.sizeOf0
  v0 := Tryz.zeroValue0
  t3 := Tryz.underlying3
  a3 := Tryz.isAgg3
  z3 := Tryz.sizeOf3
  v3 := Tryz.zeroValue3
  t4 := Tryz.underlying4
  a4 := Tryz.isAgg4
  z4 := Tryz.sizeOf4
  v4 := Tryz.zeroValue4
  t5 := Tryz.underlying5
  a5 := Tryz.isAgg5
  z5 := Tryz.sizeOf5
  v5 := Tryz.zeroValue5
  t9 := Tryz.underlying9
  a9 := Tryz.isAgg9
  z9 := Tryz.sizeOf9
  v9 := Tryz.zeroValue9
  t20 := Tryz.underlying20
  a20 := Tryz.isAgg20
  z20 := Tryz.sizeOf20
  v20 := Tryz.zeroValue20
  t37 := Tryz.underlying210
  a37 := Tryz.isAgg210
  z37 := Tryz.sizeOf210
  v37 := Tryz.zeroValue210
  t46 := Tryz.underlying54
  a46 := Tryz.isAgg54
  z46 := Tryz.sizeOf54
  v46 := Tryz.zeroValue54
  t51 := Tryz.underlying223
  a51 := Tryz.isAgg223
  z51 := Tryz.sizeOf223
  v51 := Tryz.zeroValue223
  t53 := Tryz.underlying249
  a53 := Tryz.isAgg249
  z53 := Tryz.sizeOf249
  v53 := Tryz.zeroValue249
  t70 := Tryz.underlying209
  a70 := Tryz.isAgg209
  z70 := Tryz.sizeOf209
  v70 := Tryz.zeroValue209
  t72 := Tryz.underlying212
  a72 := Tryz.isAgg212
  z72 := Tryz.sizeOf212
  v72 := Tryz.zeroValue212
  t75 := Tryz.underlying214
  a75 := Tryz.isAgg214
  z75 := Tryz.sizeOf214
  v75 := Tryz.zeroValue214
  t76 := Tryz.underlying215
  a76 := Tryz.isAgg215
  z76 := Tryz.sizeOf215
  v76 := Tryz.zeroValue215
  t109 := Tryz.underlying242
  a109 := Tryz.isAgg242
  z109 := Tryz.sizeOf242
  v109 := Tryz.zeroValue242
  t127 := Tryz.underlying241
  a127 := Tryz.isAgg241
  z127 := Tryz.sizeOf241
  v127 := Tryz.zeroValue241
  t146 := Tryz.underlying270
  a146 := Tryz.isAgg270
  z146 := Tryz.sizeOf270
  v146 := Tryz.zeroValue270
  t148 := Tryz.underlying272
  a148 := Tryz.isAgg272
  z148 := Tryz.sizeOf272
  v148 := Tryz.zeroValue272
  t164 := Tryz.underlying267
  a164 := Tryz.isAgg267
  z164 := Tryz.sizeOf267
  v164 := Tryz.zeroValue267 }
theorem Tryz.repX : Builder.Extra Tryz.prog Tryz.laysRepeat_ren := {
  sizeBuilder := by kernel_rfl
  liesBuilder := by kernel_rfl
  t5 := Tryz.underlying5
  a5 := Tryz.isAgg5
  z5 := Tryz.sizeOf5
  v5 := Tryz.zeroValue5
  infoByte := by kernel_rfl
  cellsByte := by kernel_rfl
  sizeByte := by kernel_rfl
  neB5 := by decide }
end Go.Proofs.YtcpaaleogmiamaaGreatDoor
namespace Go.Proofs.YtcpaaleogmiamaaGreatDoor
open Go.RowKit

theorem repeat_replicate (c : UInt8) : ∀ n, Lib.repeatL [c] n = List.replicate n c
  | 0 => rfl
  | n + 1 => by rw [Lib.repeatL, repeat_replicate c n, List.replicate_succ]; rfl
theorem Repeat_zero (n : Nat) (hn : n ≤ 1000) (w : World) : Calls Tryz.prog 148 #[.string ⟨#[48]⟩, .int .i64 (n : Int)] w fun e w' => e = .returned (.string (bs (List.replicate n 48))) ∧ Below w.heap.size w w' := by
  have h := Any.strings_Repeat Tryz.laysRepeat Tryz.repX (bs [48]) n w (by omega) (by rw [bs_size]; simp; omega)
  rw [bs_data, repeat_replicate] at h
  exact h
theorem itoa_nat (n : Nat) : Lib.itoa (n : Int) = Lib.decDigits n := by
  simp [Lib.itoa]

set_option maxRecDepth 100000 in
/-- The name of a segment's file. -/
theorem Stfile_any {w : World} (hE : Env w) {S : Nat → Prop} {sb tb : Nat} {x : St} (h : StAt w S sb tb x) (hk : StOk x) {n : Nat} (hn : n ≤ 1099511627776) :
    Calls Tryz.prog 91 #[.pointer (some ⟨sb, 0, none⟩), .int .i64 (n : Int)] w fun e w' => e = .returned (.string (bs (fileN x.pre n))) ∧ Below w.heap.size w w' := by
  obtain ⟨gv, m, D, h⟩ := h
  obtain ⟨-, c1, -⟩ := h.cells
  have hI := fun W (hW : Below w.heap.size w W) => Itoa_any (n := (n : Int)) ⟨by omega, by omega⟩ W (hE.below hW)
  rw [itoa_nat] at hI
  have hd := digits13 hn
  have hp := hk.pre
  obtain ⟨d, hdd⟩ : ∃ d, Lib.decDigits n = d := ⟨_, rfl⟩
  have hf : fileN x.pre n = x.pre ++ 46 :: (List.replicate (13 - d.length) 48 ++ d) := by rw [fileN, pad13, hdd]
  rw [hdd] at hI hd
  rw [hf]
  have hlt := World.block_lt_of_cell? w _ c1
  have hc : ∀ W, Below w.heap.size w W → W.cell? ⟨sb, 1, none⟩ = some (.string (bs x.pre)) := fun W hW => below_some hW c1 hlt
  obtain ⟨p, hpp⟩ : ∃ p, x.pre = p := ⟨_, rfl⟩
  rw [hpp] at hc hp ⊢
  have hr : ∀ W, Below w.heap.size w W → Calls Tryz.prog 148 #[.string ⟨#[48]⟩, .int .i64 ((13 - d.length : Nat) : Int)] W fun e w' => e = .returned (.string (bs (List.replicate (13 - d.length) 48))) ∧ Below w.heap.size w w' := fun W hW =>
    (Repeat_zero (13 - d.length) (by omega) W).mono (fun e w' h => ⟨h.1, hW.trans (h.2.mono hW.size)⟩)
  have q1 : IntKind.i64.wrap (13 - (d.length : Int)) = ((13 - d.length : Nat) : Int) := by rw [IntWalk.i64_in _ (by omega)]; omega
  have s1 : (bs p).size = p.length := bs_size p
  have s2 : (bs d).size = d.length := bs_size d
  have s3 : (bs (List.replicate (13 - d.length) 48)).size = 13 - d.length := by rw [bs_size, List.length_replicate]
  have k1 : ¬ 9223372036854775807 < (bs p).size + 1 := by omega
  have k2 : ¬ 9223372036854775807 < (bs p).size + 1 + (bs (List.replicate (13 - d.length) 48)).size := by omega
  have k3 : ¬ 9223372036854775807 < (bs p).size + 1 + (bs (List.replicate (13 - d.length) 48)).size + (bs d).size := by omega
  have q2 : IntKind.i64.wrap (13 - ((bs d).size : Int)) = ((13 - d.length : Nat) : Int) := by rw [s2]; exact q1
  have HI := Lib.hid hI
  have HC := Lib.hid hc
  have HR := Lib.hid hr
  clear h hE hI hc hr hk hd hp hdd hf c1 hlt hpp hn s1 s2 s3
  go_enter Tryz.func91, Tryz.ntmps91
  go_wp2_with (first | (go_at_call 147; refine (HI.out _ (Below.refl _ _)).mono ?_; rintro _ w1 ⟨rfl, hb1⟩))
  have c1 := HC.out _ hb1
  have HB1 := Lib.hid hb1
  clear hb1
  go_region_held3 (fun W' => W'.cell? ⟨sb, 1, none⟩ = some (.string (bs p)) ∧ Below w.heap.size w W') (first | with_reducible exact ⟨c1, HB1.out⟩ | with_reducible exact ⟨HC.out _ HB1.out.drew, HB1.out.drew⟩ | (have hg := hb2; with_reducible exact ⟨HC.out _ hb2, hb2⟩))
    (first | (go_at_call 148; refine (HR.out _ ?_).mono ?_; (first | with_reducible exact HB1.out | with_reducible exact HB1.out.drew); rintro _ w2 ⟨rfl, hb2⟩))
  go_wp2
  go_ret
  refine ⟨?_, hb2⟩
  rw [show (⟨#[46]⟩ : ByteArray) = bs [46] from rfl, bs_append, bs_append, bs_append]
  simp

def digits10 : List UInt8 := [48, 49, 50, 51, 52, 53, 54, 55, 56, 57]
theorem digits10_dec (c : UInt8) : digits10.contains c = isDigB c := by
  have h : ∀ n : Fin 256, digits10.contains (UInt8.ofNat n.val) = isDigB (UInt8.ofNat n.val) := by decide +kernel
  have := h ⟨c.toNat, c.toNat_lt⟩
  simpa using this
theorem trim_digits {s : List UInt8} : (Lib.trimS s digits10 = []) ↔ ∀ c ∈ s, isDigB c = true := by
  rw [trim_nil]
  simp only [digits10_dec]
theorem TrimDigits_any (s : List UInt8) (h0 : 0 < s.length) (hs : s.length ≤ 1000) (w : World) : Calls Tryz.prog 189 #[.string (bs s), .string ⟨#[48, 49, 50, 51, 52, 53, 54, 55, 56, 57]⟩] w fun e w' =>
    e = .returned (.string (bs (Lib.trimS s digits10))) ∧ Below w.heap.size w w' := by
  have h := Any.strings_Trim_set Tryz.laysTrim (fun w => run_zero zero_ascii w) size_ascii (bs s) (bs digits10) w (by rw [bs_size]; decide) (by rw [bs_size]; exact h0) (by rw [bs_size]; omega) (by rw [bs_size]; decide)
    (fun j b hb => by
      rw [bs_data] at hb
      have := List.mem_of_getElem? hb
      have hall : digits10.all (fun b => decide (b.toNat < 128)) = true := by decide
      simpa using List.all_eq_true.1 hall b this)
  rw [bs_data, bs_data] at h
  refine h.mono ?_
  rintro e w' ⟨rfl, q, rfl⟩
  exact ⟨rfl, below_drewN (below_alloc2 _ _ _) q⟩
theorem CutPrefix_all (s p : List UInt8) (w : World) :
    Calls Tryz.prog 188 #[.string (bs s), .string (bs p)] w fun e w' => e = .returned (.tuple #[.string (bs (Lib.trimPrefix s p)), .bool (Lib.hasPrefix s p)]) ∧ w' = w := by
  have := Any.strings_CutPrefix Tryz.laysCutPrefix (bs s) (bs p) w
  rw [bs_data, bs_data] at this
  exact this

/-- Thirteen digits are a number. -/
theorem atoi_digs {d : List UInt8} (h : d.length = 13) (hd : ∀ c ∈ d, isDigB c = true) : Lib.atoiAll d = .ok ((dval 0 d : Nat) : Int) := by
  have hb : dval 0 d < 10000000000000 := by
    have key : ∀ (l : List UInt8) (a : Nat), (∀ c ∈ l, isDigB c = true) → dval a l < (a + 1) * 10 ^ l.length := by
      intro l
      induction l with
      | nil => intro a _; simp [dval]
      | cons c l ih =>
        intro a hc
        have hx := (isDigB_iff c).1 (hc c (by simp))
        have := ih (a * 10 + (c.toNat - 48)) (fun y hy => hc y (by simp [hy]))
        rw [dval_cons, List.length_cons, Nat.pow_succ]
        refine Nat.lt_of_lt_of_le this ?_
        rw [Nat.mul_comm (10 ^ l.length) 10, ← Nat.mul_assoc]
        exact Nat.mul_le_mul_right _ (by omega)
    have := key d 0 hd
    rw [h] at this
    simpa using this
  have hp := parse_dig d 0 hd (by omega)
  cases d with
  | nil => simp at h
  | cons c l =>
    have hc := (isDigB_iff c).1 (hd c (by simp))
    have hm : Lib.parseMag (c :: l) = .ok (dval 0 (c :: l)) := hp
    rw [Lib.atoiAll_plain c l (by omega) (by omega), hm]
    simp only [Lib.signless]
    rw [if_neg (by omega)]

/-- What base answers. -/
def BaseTo (w : World) (o : Option Nat) (e : Ending) (w' : World) : Prop := (match o with
  | some n => e = .returned (.tuple #[.int .i64 (n : Int), .bool true])
  | none => ∃ k : Int, e = .returned (.tuple #[.int .i64 k, .bool false])) ∧ Below w.heap.size w w'

set_option maxRecDepth 100000 in
set_option maxHeartbeats 1000000 in
theorem Stbase_any {w : World} (hE : Env w) {S : Nat → Prop} {sb tb : Nat} {x : St} (h : StAt w S sb tb x) (hk : StOk x) (name : List UInt8) :
    Calls Tryz.prog 151 #[.pointer (some ⟨sb, 0, none⟩), .string (bs name)] w (BaseTo w (baseN x.pre name)) := by
  obtain ⟨gv, m, D, h⟩ := h
  obtain ⟨-, c1, -⟩ := h.cells
  have hp := hk.pre
  obtain ⟨p, hpp⟩ : ∃ p, x.pre = p := ⟨_, rfl⟩
  rw [hpp] at c1 hp ⊢
  have s1 : (bs p).size = p.length := bs_size p
  have k1 : ¬ 9223372036854775807 < (bs p).size + 1 := by omega
  have e1 : bs p ++ (⟨#[46]⟩ : ByteArray) = bs (p ++ [46]) := by rw [show (⟨#[46]⟩ : ByteArray) = bs [46] from rfl, bs_append]
  have hcp := CutPrefix_all name (p ++ [46])
  obtain ⟨d, hd⟩ : ∃ d, Lib.trimPrefix name (p ++ [46]) = d := ⟨_, rfl⟩
  obtain ⟨q, hq⟩ : ∃ q, Lib.hasPrefix name (p ++ [46]) = q := ⟨_, rfl⟩
  have hbn : baseN p name = if q = true ∧ d.length = 13 ∧ (∀ c ∈ d, isDigB c = true) ∧ dval 0 d ≤ 1099511627776 then some (dval 0 d) else none := by rw [baseN, hd, hq]
  rw [hd, hq] at hcp
  rw [← e1] at hcp
  have HCP := Lib.hid hcp
  have HBN := Lib.hid hbn
  have sd : (bs d).size = d.length := bs_size d
  clear hcp hbn hd hq h hk hpp e1 hp
  cases q with
  | false =>
    have hb : baseN p name = none := by rw [HBN.out, if_neg (by simp)]
    rw [hb]
    clear hb
    go_enter Tryz.func151, Tryz.ntmps151
    go_wp2_with (first | (go_at_call 188; refine (HCP.out _).mono ?_; rintro _ w1 ⟨rfl, rfl⟩))
    exact bodyPost_ret (v := .tuple #[.int .i64 0, .bool false]) (by simp [results, Tryz.results151, go_sem]) rfl ⟨⟨_, rfl⟩, Below.refl _ _⟩
  | true =>
    by_cases h13 : d.length = 13
    · have e13 : ((d.length : Int) != 13) = false := by simpa using by omega
      have e13' : ((13 : Int) != 13) = false := by decide
      have HT := Lib.hid (TrimDigits_any d (by omega) (by omega))
      have hat := fun W (hW : Below w.heap.size w W) => Atoi_any d (by omega) W (hE.below hW)
      have HAT := Lib.hid hat
      have h13' : (bs d).size = 13 := by omega
      clear hat hE
      by_cases hall : ∀ c ∈ d, isDigB c = true
      · have h2 : (bs (Lib.trimS d digits10)).toList = [] := by rw [bs_toList, trim_digits.2 hall]
        have hao := atoi_digs h13 hall
        obtain ⟨n, hn⟩ : ∃ n, dval 0 d = n := ⟨_, rfl⟩
        rw [hn] at hao
        have HAO := Lib.hid hao
        clear hao
        by_cases hle : n ≤ 1099511627776
        · have hb : baseN p name = some n := by rw [HBN.out, hn, if_pos ⟨rfl, h13, hall, hle⟩]
          have hle' : (n : Int) ≤ 1099511627776 := by omega
          rw [hb]
          clear hb hall hn h13 sd
          go_enter Tryz.func151, Tryz.ntmps151
          go_wp2_with (first | (go_at_call 188; refine (HCP.out _).mono ?_; rintro _ w1 ⟨rfl, rfl⟩) | (go_at_call 189; refine (HT.out _).mono ?_; rintro _ w2 ⟨rfl, hb2⟩) | (go_at_call 190; refine (HAT.out _ hb2).mono ?_; rintro _ w3 ⟨v, ev, rfl, hb3, -, hv⟩; obtain ⟨rfl, rfl⟩ : v = (n : Int) ∧ ev = .nilIface := (hv.elim (fun h => ⟨by have h1 := h.1; rw [HAO.out] at h1; exact (Lib.NumEnd.ok.inj h1).symm, h.2⟩) (fun h => absurd HAO.out (h.1 _)))))
          exact bodyPost_ret (v := .tuple #[.int .i64 (n : Int), .bool true]) (by simp [results, Tryz.results151, go_sem]) rfl ⟨rfl, below_trans hb2 hb3⟩
        · have hb : baseN p name = none := by rw [HBN.out, hn, if_neg (fun h => hle h.2.2.2)]
          have hle' : ¬ (n : Int) ≤ 1099511627776 := by omega
          rw [hb]
          clear hb hall hn h13 sd
          go_enter Tryz.func151, Tryz.ntmps151
          go_wp2_with (first | (go_at_call 188; refine (HCP.out _).mono ?_; rintro _ w1 ⟨rfl, rfl⟩) | (go_at_call 189; refine (HT.out _).mono ?_; rintro _ w2 ⟨rfl, hb2⟩) | (go_at_call 190; refine (HAT.out _ hb2).mono ?_; rintro _ w3 ⟨v, ev, rfl, hb3, -, hv⟩; obtain ⟨rfl, rfl⟩ : v = (n : Int) ∧ ev = .nilIface := (hv.elim (fun h => ⟨by have h1 := h.1; rw [HAO.out] at h1; exact (Lib.NumEnd.ok.inj h1).symm, h.2⟩) (fun h => absurd HAO.out (h.1 _)))))
          exact bodyPost_ret (v := .tuple #[.int .i64 (n : Int), .bool false]) (by simp [results, Tryz.results151, go_sem]; omega) rfl ⟨⟨_, rfl⟩, below_trans hb2 hb3⟩
      · have hb : baseN p name = none := by rw [HBN.out, if_neg (fun h => hall h.2.2.1)]
        have h2 : ¬ (bs (Lib.trimS d digits10)).toList = [] := by
          rw [bs_toList]
          exact fun ht => hall (trim_digits.1 ht)
        have h2' : (bs (Lib.trimS d digits10)).toList.isEmpty = false := by simpa using h2
        rw [hb]
        clear hb hall h13 sd
        go_enter Tryz.func151, Tryz.ntmps151
        go_wp2_with (first | (go_at_call 188; refine (HCP.out _).mono ?_; rintro _ w1 ⟨rfl, rfl⟩) | (go_at_call 189; refine (HT.out _).mono ?_; rintro _ w2 ⟨rfl, hb2⟩))
        exact bodyPost_ret (v := .tuple #[.int .i64 0, .bool false]) (by simp [results, Tryz.results151, go_sem]) rfl ⟨⟨_, rfl⟩, hb2⟩
    · have hb : baseN p name = none := by rw [HBN.out, if_neg (fun h => h13 h.2.1)]
      have e13 : ((d.length : Int) != 13) = true := by simpa using by omega
      rw [hb]
      clear hb
      go_enter Tryz.func151, Tryz.ntmps151
      go_wp2_with (first | (go_at_call 188; refine (HCP.out _).mono ?_; rintro _ w1 ⟨rfl, rfl⟩))
      exact bodyPost_ret (v := .tuple #[.int .i64 0, .bool false]) (by simp [results, Tryz.results151, go_sem]) rfl ⟨⟨_, rfl⟩, Below.refl _ _⟩
end Go.Proofs.YtcpaaleogmiamaaGreatDoor
