/- Laws at an operation, more. -/
/- Rows that the call owns. -/
/- The library's contracts at this dump's numbers (by the kit's lay-plain). -/
import Derived.Test.YtcpaaleogmiamaaGreatDoorBase
import Derived.Shelf.Strings.Search2
import Derived.Shelf.Strings.OnBuilder
import Derived.Shelf.Small.Wraps
import Derived.Shelf.Strconv.Itoa3
import Derived.Shelf.Strconv.AtoiAll
import Derived.Ground.NamesProg
import Derived.Test.YtcpaaleogmiamaaGreatDoorProg
namespace Go.Proofs.YtcpaaleogmiamaaGreatDoor
open Go.RowKit

theorem step_mapUpdate {P : Program} {ops : Array Oper} {o : Oper} {a : Act} {w : World} {K : Act → World → Prop} {Q : Exit → Act → World → Prop} {E : Prop} (hgd : o.guard = none)
    (T : TypeId) (m k v : Operand) (ho : o.op = .mapUpdate T m k v) (B : Nat) (key : Int) (val : Value) (hm : a.eval m = .map (some B)) (hk : a.eval k = .int .i64 key) (hv : a.eval v = val)
    {KT ET : TypeId} (hT : P.underlying T = some (.map KT ET)) (hK : P.underlying KT = some (.int .i64)) {mm : List (Int × Value)} (hmap : MapIs w B mm)
    (h : ∀ w', Upd (fun k => k = B) w w' → MapIs w' B (mput mm key val) → K (a.put o.dst undef) w') :
    if Region.wanted o (yielded ops a.tmps) = true then Oper.wp P o a w K Q else E := by
  rw [if_pos (by simp [Region.wanted, hgd])]
  obtain ⟨ob, hr, hm2⟩ := run_mapUpdate_ints hT hK hmap key val
  have hB : B < w.heap.size := by obtain ⟨_, _, hb, _⟩ := hmap; exact (Array.getElem?_eq_some_iff.1 hb).1
  unfold Oper.wp execOp
  simp only [ho, hm, hk, hv, Sem.run_bind, hr, Result.andThen, Sem.run_pure]
  exact h _ ⟨rfl, rfl, rfl, by simp, fun k hk hne => by simp [Ne.symm hne]⟩ hm2

theorem wpList_mapUpdate {P : Program} {ops : Array Oper} {rest : List Oper} {o : Oper} {a : Act} {w : World} {Q : Exit → Act → World → Prop} (hgd : o.guard = none)
    (T : TypeId) (m k v : Operand) (ho : o.op = .mapUpdate T m k v) (B : Nat) (key : Int) (val : Value) (hm : a.eval m = .map (some B)) (hk : a.eval k = .int .i64 key) (hv : a.eval v = val)
    {KT ET : TypeId} (hT : P.underlying T = some (.map KT ET)) (hK : P.underlying KT = some (.int .i64)) {mm : List (Int × Value)} (hmap : MapIs w B mm)
    (h : ∀ w', Upd (fun k => k = B) w w' → MapIs w' B (mput mm key val) → wpList P ops Q rest (a.put o.dst undef) w') :
    wpList P ops Q (o :: rest) a w :=
  wpList_step fun _K' hK' => step_mapUpdate hgd T m k v ho B key val hm hk hv hT hK hmap fun w' hu hm => hK' _ _ (h w' hu hm)

theorem MapIs.same {w w' : World} {B : Nat} {m : List (Int × Value)} (h : MapIs w B m) (hb : w'.heap[B]? = w.heap[B]?) : MapIs w' B m := by
  obtain ⟨es, cl, h1, h2⟩ := h
  exact ⟨es, cl, hb.trans h1, h2⟩

theorem upd_some {F : Nat → Prop} {w w' : World} (h : Upd F w w') {b o : Nat} {v : Value} (hc : w.cell? ⟨b, o, none⟩ = some v) (hb : ¬ F b) : w'.cell? ⟨b, o, none⟩ = some v := by
  have hlt : b < w.heap.size := World.block_lt_of_cell? w _ hc
  rw [← hc]
  exact World.cell?_of_block (h.block b hlt hb)

/-- A write to the map of block B, in the world w (behind a draw): the world w6 that it makes. -/
theorem mapUpdate_run {P : Program} {T K E : TypeId} (hT : P.underlying T = some (.map K E)) (hK : P.underlying K = some (.int .i64))
    {w : World} {B : Nat} {m : List (Int × Value)} (hm : MapIs w B m) (k : Int) (v : Value) :
    ∃ w6, (Instr.mapUpdate T (.map (some B)) (.int .i64 k) v).run P w = .ok () w6 ∧ MapIs w6 B (mput m k v) ∧ Upd (fun k => k = B) w w6 := by
  obtain ⟨ob, hr, hm2⟩ := run_mapUpdate_ints hT hK hm k v
  exact ⟨_, hr, hm2, rfl, rfl, rfl, by simp, fun k hk hne => by simp [Ne.symm hne]⟩

theorem MapIs.upd {w w' : World} {F : Nat → Prop} {B : Nat} {m : List (Int × Value)} (h : MapIs w B m) (hu : Upd F w w') (hB : ¬ F B) : MapIs w' B m := by
  obtain ⟨es, cl, h1, h2⟩ := h
  exact ⟨es, cl, (hu.block B (Array.getElem?_eq_some_iff.1 h1).1 hB).trans h1, h2⟩

theorem run_len_ints {P : Program} {T K E : TypeId} (hT : P.underlying T = some (.map K E)) {w : World} {B : Nat} {m : List (Int × Value)} (hm : MapIs w B m) (ty : TypeId) :
    (Builtin.len_ #[T] ty #[.map (some B)]).run P w = .ok (.int .i64 m.length) w := by
  obtain ⟨es, clock, hb, he, -⟩ := hm
  have : es.size = m.length := by have := congrArg List.length he; simpa using this
  simp [Builtin.len_, run_underlying hT, MapKept.run_getObj_map hb, goInt, Result.andThen, this]

theorem setCell_same {w : World} {b o : Nat} {v : Value} {c : Array Value} {T : TypeId} {fz : Nat × Nat} (h : w.heap[b]? = some (.cells c T fz)) :
    (w.setCell ⟨b, o, none⟩ v).heap[b]? = some (.cells (c.setIfInBounds o v) T fz) := by
  simp [World.setCell, Array.getElem?_modify, h]

theorem upd_setCell {F : Nat → Prop} {w w' : World} (h : Upd F w w') {b o : Nat} (hF : F b) (v : Value) : Upd F w (w'.setCell ⟨b, o, none⟩ v) :=
  h.trans ⟨rfl, rfl, rfl, by simp, fun k _ hk => Below.heap_setCell _ _ _ _ (fun e => hk (by rw [e]; exact hF))⟩
end Go.Proofs.YtcpaaleogmiamaaGreatDoor
namespace Go.Proofs.YtcpaaleogmiamaaGreatDoor
open Go.RowKit

theorem owns_upd {w w' : World} {F : Nat → Prop} {base e size : Nat} {v : Value} {n : Nat} {xs : List Value} (h : w.ownsRow base e size v n xs) (hu : Upd F w w') (hF : ∀ g, v.ownBlock = some g → ¬ F g) :
    w'.ownsRow base e size v n xs := by
  refine ⟨h.1, ?_⟩
  rcases h.2 with h | ⟨g, cap, cur, rfl, h2, h3, h4⟩
  · exact .inl h
  · exact .inr ⟨g, cap, cur, rfl, h2, by rw [hu.block g (Array.getElem?_eq_some_iff.1 h3).1 (hF g rfl)]; exact h3, h4⟩

theorem owns_mono {w : World} {base base' e size : Nat} {v : Value} {n : Nat} {xs : List Value} (h : w.ownsRow base e size v n xs) (hb : base' ≤ base) : w.ownsRow base' e size v n xs := by
  refine ⟨h.1, ?_⟩
  rcases h.2 with h | ⟨g, cap, cur, rfl, h2, h3⟩
  · exact .inl h
  · exact .inr ⟨g, cap, cur, rfl, by omega, h3⟩

theorem upd_grown {w w' : World} {r : Option Nat} (h : w.grownBy w' r) : Upd (fun k => some k = r) w w' := ⟨h.os, h.tape, h.output, h.size, fun k hk hne => h.block k hk hne⟩

theorem owns_types {w : World} {b b' e e' s s' : Nat} {v v' : Value} {n n' : Nat} {xs xs' : List Value} (h : w.ownsRow b e s v n xs) (h' : w.ownsRow b' e' s' v' n' xs') (hne : e ≠ e') :
    ∀ g, v.ownBlock = some g → ¬ some g = v'.ownBlock := by
  intro g hg hx
  rcases h.2 with ⟨rfl, _⟩ | ⟨g1, cap, cur, rfl, _, h3, _⟩
  · cases hg
  · rcases h'.2 with ⟨rfl, _⟩ | ⟨g2, cap', cur', rfl, _, h3', _⟩
    · cases hx
    · simp only [Value.ownBlock, Option.some.injEq] at hg hx
      subst hg; subst hx
      rw [h3] at h3'
      simp at h3'
      exact hne h3'.2

theorem owns_lt {w : World} {base e size : Nat} {v : Value} {n : Nat} {xs : List Value} (h : w.ownsRow base e size v n xs) : ∀ g, v.ownBlock = some g → base ≤ g ∧ g < w.heap.size := by
  intro g hg
  rcases h.2 with ⟨rfl, _⟩ | ⟨g1, cap, cur, rfl, h2, h3, _⟩
  · cases hg
  · simp only [Value.ownBlock, Option.some.injEq] at hg
    subst hg
    exact ⟨h2, (Array.getElem?_eq_some_iff.1 h3).1⟩

end Go.Proofs.YtcpaaleogmiamaaGreatDoor
namespace Go.Proofs.YtcpaaleogmiamaaGreatDoor
open Go.Shelf
def Tryz.laysIndex_ren : Go.Shelf.Ren := ⟨fun | 219 => 271 | 217 => 284 | 225 => 285 | 224 => 286 | 267 => 287 | 266 => 294 | 314 => 295 | n => n, fun | 9 => 9 | 3 => 3 | 4 => 4 | 5 => 5 | 46 => 54 | 146 => 270 | 51 => 223 | n => n, fun | 1 => 1 | n => n⟩
theorem Tryz.laysIndex : Go.Proofs.Lays.n219 Tryz.prog Tryz.laysIndex_ren := {
  mixed := by kernel_rfl
  f217 := Tryz.func284.trans (congrArg some (by kernel_rfl))
  f219 := Tryz.func271.trans (congrArg some (by kernel_rfl))
  f224 := Tryz.func286.trans (congrArg some (by kernel_rfl))
  f225 := Tryz.func285.trans (congrArg some (by kernel_rfl))
  f266 := Tryz.func294.trans (congrArg some (by kernel_rfl))
  f267 := Tryz.func287.trans (congrArg some (by kernel_rfl))
  f314 := Tryz.func295.trans (congrArg some (by kernel_rfl))
  t3 := Tryz.underlying3
  a3 := Tryz.isAgg3
  z3 := Tryz.sizeOf3
  v3 := Tryz.zeroValue3
  t4 := Tryz.underlying4
  a4 := Tryz.isAgg4
  z4 := Tryz.sizeOf4
  v4 := Tryz.zeroValue4
  t5 := Tryz.underlying5
  a5 := Tryz.isAgg5
  z5 := Tryz.sizeOf5
  v5 := Tryz.zeroValue5
  t9 := Tryz.underlying9
  a9 := Tryz.isAgg9
  z9 := Tryz.sizeOf9
  v9 := Tryz.zeroValue9
  t46 := Tryz.underlying54
  a46 := Tryz.isAgg54
  z46 := Tryz.sizeOf54
  v46 := Tryz.zeroValue54
  t51 := Tryz.underlying223
  a51 := Tryz.isAgg223
  z51 := Tryz.sizeOf223
  v51 := Tryz.zeroValue223
  t146 := Tryz.underlying270
  a146 := Tryz.isAgg270
  z146 := Tryz.sizeOf270
  v146 := Tryz.zeroValue270
  g1 := by kernel_rfl }
def Tryz.laysItoa_ren : Go.Shelf.Ren := ⟨fun | 171 => 147 | 243 => 183 | 246 => 216 | 283 => 250 | 284 => 251 | 285 => 252 | 286 => 253 | 129 => 246 | 317 => 273 | 318 => 274 | 319 => 275 | 320 => 276 | 337 => 288 | 338 => 289 | n => n, fun | 3 => 3 | 9 => 9 | 2 => 2 | 4 => 4 | 171 => 296 | 0 => 0 | 53 => 249 | 37 => 210 | 5 => 5 | 173 => 298 | 212 => 319 | 51 => 223 | 20 => 20 | 213 => 320 | 46 => 54 | 232 => 341 | 233 => 342 | n => n, fun | 17 => 0 | 18 => 6 | 19 => 7 | n => n⟩
theorem Tryz.laysItoa : Go.Proofs.LaysM.n171 Tryz.prog Tryz.laysItoa_ren := {
  mixed := by kernel_rfl
  f129 := Tryz.func246.trans (congrArg some (by kernel_rfl))
  f171 := Tryz.func147.trans (congrArg some (by kernel_rfl))
  f243 := Tryz.func183.trans (congrArg some (by kernel_rfl))
  f246 := Tryz.func216.trans (congrArg some (by kernel_rfl))
  f283 := Tryz.func250.trans (congrArg some (by kernel_rfl))
  f284 := Tryz.func251.trans (congrArg some (by kernel_rfl))
  f285 := Tryz.func252.trans (congrArg some (by kernel_rfl))
  f286 := Tryz.func253.trans (congrArg some (by kernel_rfl))
  f317 := Tryz.func273.trans (congrArg some (by kernel_rfl))
  f318 := Tryz.func274.trans (congrArg some (by kernel_rfl))
  f319 := Tryz.func275.trans (congrArg some (by kernel_rfl))
  f320 := Tryz.func276.trans (congrArg some (by kernel_rfl))
  f337 := Tryz.func288.trans (congrArg some (by kernel_rfl))
  f338 := Tryz.func289.trans (congrArg some (by kernel_rfl))
  t0 := Tryz.underlying0
  a0 := Tryz.isAgg0
  z0 := Tryz.sizeOf0
  v0 := Tryz.zeroValue0
  t2 := Tryz.underlying2
  a2 := Tryz.isAgg2
  z2 := Tryz.sizeOf2
  v2 := Tryz.zeroValue2
  t3 := Tryz.underlying3
  a3 := Tryz.isAgg3
  z3 := Tryz.sizeOf3
  v3 := Tryz.zeroValue3
  t4 := Tryz.underlying4
  a4 := Tryz.isAgg4
  z4 := Tryz.sizeOf4
  v4 := Tryz.zeroValue4
  t5 := Tryz.underlying5
  a5 := Tryz.isAgg5
  z5 := Tryz.sizeOf5
  v5 := Tryz.zeroValue5
  t9 := Tryz.underlying9
  a9 := Tryz.isAgg9
  z9 := Tryz.sizeOf9
  v9 := Tryz.zeroValue9
  t20 := Tryz.underlying20
  a20 := Tryz.isAgg20
  z20 := Tryz.sizeOf20
  v20 := Tryz.zeroValue20
  t37 := Tryz.underlying210
  a37 := Tryz.isAgg210
  z37 := Tryz.sizeOf210
  v37 := Tryz.zeroValue210
  t46 := Tryz.underlying54
  a46 := Tryz.isAgg54
  z46 := Tryz.sizeOf54
  v46 := Tryz.zeroValue54
  t51 := Tryz.underlying223
  a51 := Tryz.isAgg223
  z51 := Tryz.sizeOf223
  v51 := Tryz.zeroValue223
  t53 := Tryz.underlying249
  a53 := Tryz.isAgg249
  z53 := Tryz.sizeOf249
  v53 := Tryz.zeroValue249
  t171 := Tryz.underlying296
  a171 := Tryz.isAgg296
  z171 := Tryz.sizeOf296
  v171 := Tryz.zeroValue296
  t173 := Tryz.underlying298
  a173 := Tryz.isAgg298
  z173 := Tryz.sizeOf298
  v173 := Tryz.zeroValue298
  t212 := Tryz.underlying319
  a212 := Tryz.isAgg319
  z212 := Tryz.sizeOf319
  v212 := Tryz.zeroValue319
  t213 := Tryz.underlying320
  a213 := Tryz.isAgg320
  z213 := Tryz.sizeOf320
  t232 := Tryz.underlying341
  a232 := Tryz.isAgg341
  z232 := Tryz.sizeOf341
  v232 := Tryz.zeroValue341
  t233 := Tryz.underlying342
  a233 := Tryz.isAgg342
  z233 := Tryz.sizeOf342
  v233 := Tryz.zeroValue342
  g17 := by kernel_rfl
  g18 := by kernel_rfl
  g19 := by kernel_rfl
  i0 := by kernel_rfl
  i2 := by kernel_rfl
  i3 := by kernel_rfl
  i4 := by kernel_rfl
  i5 := by kernel_rfl
  i9 := by kernel_rfl
  i20 := by kernel_rfl
  i37 := by kernel_rfl
  i46 := by kernel_rfl
  i51 := by kernel_rfl
  i53 := by kernel_rfl
  i171 := by kernel_rfl
  i173 := by kernel_rfl
  i212 := by kernel_rfl
  i232 := by kernel_rfl
  i233 := by kernel_rfl
  m17 := by kernel_rfl
  m18 := by kernel_rfl
  m19 := by kernel_rfl }
def Tryz.laysAtoi_ren : Go.Shelf.Ren := ⟨fun | 172 => 190 | 244 => 229 | 245 => 230 | 247 => 259 | 279 => 260 | 280 => 261 | 281 => 262 | 282 => 263 | 287 => 280 | 316 => 281 | 171 => 147 | 205 => 282 | 321 => 292 | 322 => 293 | 243 => 183 | 246 => 216 | 283 => 250 | 284 => 251 | 285 => 252 | 286 => 253 | 129 => 246 | 317 => 273 | 318 => 274 | 319 => 275 | 320 => 276 | 337 => 288 | 338 => 289 | n => n, fun | 9 => 9 | 3 => 3 | 75 => 214 | 76 => 215 | 4 => 4 | 5 => 5 | 167 => 305 | 37 => 210 | 0 => 0 | 85 => 306 | 2 => 2 | 168 => 308 | 53 => 249 | 175 => 322 | 46 => 54 | 210 => 325 | 127 => 241 | 145 => 339 | 143 => 337 | 21 => 21 | 171 => 296 | 173 => 298 | 212 => 319 | 51 => 223 | 20 => 20 | 213 => 320 | 232 => 341 | 233 => 342 | 80 => 169 | n => n, fun | 15 => 2 | 16 => 3 | 17 => 0 | 18 => 6 | 19 => 7 | n => n⟩
theorem Tryz.laysAtoi : Go.Proofs.LaysC.n172 Tryz.prog Tryz.laysAtoi_ren := {
  mixed := by kernel_rfl
  f129 := Tryz.func246.trans (congrArg some (by kernel_rfl))
  f171 := Tryz.func147.trans (congrArg some (by kernel_rfl))
  f172 := Tryz.func190.trans (congrArg some (by kernel_rfl))
  f205 := Tryz.func282.trans (congrArg some (by kernel_rfl))
  f243 := Tryz.func183.trans (congrArg some (by kernel_rfl))
  f244 := Tryz.func229.trans (congrArg some (by kernel_rfl))
  f245 := Tryz.func230.trans (congrArg some (by kernel_rfl))
  f246 := Tryz.func216.trans (congrArg some (by kernel_rfl))
  f247 := Tryz.func259.trans (congrArg some (by kernel_rfl))
  f279 := Tryz.func260.trans (congrArg some (by kernel_rfl))
  f280 := Tryz.func261.trans (congrArg some (by kernel_rfl))
  f281 := Tryz.func262.trans (congrArg some (by kernel_rfl))
  f282 := Tryz.func263.trans (congrArg some (by kernel_rfl))
  f283 := Tryz.func250.trans (congrArg some (by kernel_rfl))
  f284 := Tryz.func251.trans (congrArg some (by kernel_rfl))
  f285 := Tryz.func252.trans (congrArg some (by kernel_rfl))
  f286 := Tryz.func253.trans (congrArg some (by kernel_rfl))
  f287 := Tryz.func280.trans (congrArg some (by kernel_rfl))
  f316 := Tryz.func281.trans (congrArg some (by kernel_rfl))
  f317 := Tryz.func273.trans (congrArg some (by kernel_rfl))
  f318 := Tryz.func274.trans (congrArg some (by kernel_rfl))
  f319 := Tryz.func275.trans (congrArg some (by kernel_rfl))
  f320 := Tryz.func276.trans (congrArg some (by kernel_rfl))
  f321 := Tryz.func292.trans (congrArg some (by kernel_rfl))
  f322 := Tryz.func293.trans (congrArg some (by kernel_rfl))
  f337 := Tryz.func288.trans (congrArg some (by kernel_rfl))
  f338 := Tryz.func289.trans (congrArg some (by kernel_rfl))
  t0 := Tryz.underlying0
  a0 := Tryz.isAgg0
  z0 := Tryz.sizeOf0
  v0 := Tryz.zeroValue0
  t2 := Tryz.underlying2
  a2 := Tryz.isAgg2
  z2 := Tryz.sizeOf2
  v2 := Tryz.zeroValue2
  t3 := Tryz.underlying3
  a3 := Tryz.isAgg3
  z3 := Tryz.sizeOf3
  v3 := Tryz.zeroValue3
  t4 := Tryz.underlying4
  a4 := Tryz.isAgg4
  z4 := Tryz.sizeOf4
  v4 := Tryz.zeroValue4
  t5 := Tryz.underlying5
  a5 := Tryz.isAgg5
  z5 := Tryz.sizeOf5
  v5 := Tryz.zeroValue5
  t9 := Tryz.underlying9
  a9 := Tryz.isAgg9
  z9 := Tryz.sizeOf9
  v9 := Tryz.zeroValue9
  t20 := Tryz.underlying20
  a20 := Tryz.isAgg20
  z20 := Tryz.sizeOf20
  v20 := Tryz.zeroValue20
  t21 := Tryz.underlying21
  a21 := Tryz.isAgg21
  z21 := Tryz.sizeOf21
  v21 := Tryz.zeroValue21
  t37 := Tryz.underlying210
  a37 := Tryz.isAgg210
  z37 := Tryz.sizeOf210
  v37 := Tryz.zeroValue210
  t46 := Tryz.underlying54
  a46 := Tryz.isAgg54
  z46 := Tryz.sizeOf54
  v46 := Tryz.zeroValue54
  t51 := Tryz.underlying223
  a51 := Tryz.isAgg223
  z51 := Tryz.sizeOf223
  v51 := Tryz.zeroValue223
  t53 := Tryz.underlying249
  a53 := Tryz.isAgg249
  z53 := Tryz.sizeOf249
  v53 := Tryz.zeroValue249
  t75 := Tryz.underlying214
  a75 := Tryz.isAgg214
  z75 := Tryz.sizeOf214
  v75 := Tryz.zeroValue214
  t76 := Tryz.underlying215
  a76 := Tryz.isAgg215
  z76 := Tryz.sizeOf215
  v76 := Tryz.zeroValue215
  t85 := Tryz.underlying306
  a85 := Tryz.isAgg306
  z85 := Tryz.sizeOf306
  v85 := Tryz.zeroValue306
  t127 := Tryz.underlying241
  a127 := Tryz.isAgg241
  z127 := Tryz.sizeOf241
  v127 := Tryz.zeroValue241
  t143 := Tryz.underlying337
  a143 := Tryz.isAgg337
  z143 := Tryz.sizeOf337
  v143 := Tryz.zeroValue337
  t145 := Tryz.underlying339
  a145 := Tryz.isAgg339
  z145 := Tryz.sizeOf339
  v145 := Tryz.zeroValue339
  t167 := Tryz.underlying305
  a167 := Tryz.isAgg305
  z167 := Tryz.sizeOf305
  v167 := Tryz.zeroValue305
  t168 := Tryz.underlying308
  a168 := Tryz.isAgg308
  z168 := Tryz.sizeOf308
  v168 := Tryz.zeroValue308
  t171 := Tryz.underlying296
  a171 := Tryz.isAgg296
  z171 := Tryz.sizeOf296
  v171 := Tryz.zeroValue296
  t173 := Tryz.underlying298
  a173 := Tryz.isAgg298
  z173 := Tryz.sizeOf298
  v173 := Tryz.zeroValue298
  t175 := Tryz.underlying322
  a175 := Tryz.isAgg322
  z175 := Tryz.sizeOf322
  v175 := Tryz.zeroValue322
  t210 := Tryz.underlying325
  a210 := Tryz.isAgg325
  z210 := Tryz.sizeOf325
  v210 := Tryz.zeroValue325
  t212 := Tryz.underlying319
  a212 := Tryz.isAgg319
  z212 := Tryz.sizeOf319
  v212 := Tryz.zeroValue319
  t213 := Tryz.underlying320
  a213 := Tryz.isAgg320
  z213 := Tryz.sizeOf320
  t232 := Tryz.underlying341
  a232 := Tryz.isAgg341
  z232 := Tryz.sizeOf341
  v232 := Tryz.zeroValue341
  t233 := Tryz.underlying342
  a233 := Tryz.isAgg342
  z233 := Tryz.sizeOf342
  v233 := Tryz.zeroValue342
  g15 := by kernel_rfl
  g16 := by kernel_rfl
  g17 := by kernel_rfl
  g18 := by kernel_rfl
  g19 := by kernel_rfl
  t80 := Tryz.underlying169
  a80 := Tryz.isAgg169
  z80 := Tryz.sizeOf169
  v80 := Tryz.zeroValue169
  i0 := by kernel_rfl
  i2 := by kernel_rfl
  i3 := by kernel_rfl
  i4 := by kernel_rfl
  i5 := by kernel_rfl
  i9 := by kernel_rfl
  i20 := by kernel_rfl
  i21 := by kernel_rfl
  i37 := by kernel_rfl
  i46 := by kernel_rfl
  i51 := by kernel_rfl
  i53 := by kernel_rfl
  i75 := by kernel_rfl
  i76 := by kernel_rfl
  i80 := by kernel_rfl
  i85 := by kernel_rfl
  i127 := by kernel_rfl
  i143 := by kernel_rfl
  i145 := by kernel_rfl
  i167 := by kernel_rfl
  i168 := by kernel_rfl
  i171 := by kernel_rfl
  i173 := by kernel_rfl
  i175 := by kernel_rfl
  i210 := by kernel_rfl
  i212 := by kernel_rfl
  i232 := by kernel_rfl
  i233 := by kernel_rfl
  m15 := by kernel_rfl
  m16 := by kernel_rfl
  m17 := by kernel_rfl
  m18 := by kernel_rfl
  m19 := by kernel_rfl
  c0 := by kernel_rfl
  c2 := by kernel_rfl
  c3 := by kernel_rfl
  c4 := by kernel_rfl
  c5 := by kernel_rfl
  c9 := by kernel_rfl
  c20 := by kernel_rfl
  c21 := by kernel_rfl
  c37 := by kernel_rfl
  c46 := by kernel_rfl
  c51 := by kernel_rfl
  c53 := by kernel_rfl
  c75 := by kernel_rfl
  c76 := by kernel_rfl
  c80 := by kernel_rfl
  c85 := by kernel_rfl
  c127 := by kernel_rfl
  c143 := by kernel_rfl
  c145 := by kernel_rfl
  c167 := by kernel_rfl
  c168 := by kernel_rfl
  c171 := by kernel_rfl
  c173 := by kernel_rfl
  c175 := by kernel_rfl
  c210 := by kernel_rfl
  c212 := by kernel_rfl
  c213 := by kernel_rfl
  c232 := by kernel_rfl
  c233 := by kernel_rfl }
def Tryz.laysCutPrefix_ren : Go.Shelf.Ren := ⟨fun | 103 => 188 | 210 => 221 | 206 => 219 | n => n, fun | 9 => 9 | 4 => 4 | 24 => 245 | 3 => 3 | n => n, fun | n => n⟩
theorem Tryz.laysCutPrefix : Go.Proofs.Lays.n103 Tryz.prog Tryz.laysCutPrefix_ren := {
  mixed := by kernel_rfl
  f103 := Tryz.func188.trans (congrArg some (by kernel_rfl))
  f206 := Tryz.func219.trans (congrArg some (by kernel_rfl))
  f210 := Tryz.func221.trans (congrArg some (by kernel_rfl))
  t3 := Tryz.underlying3
  a3 := Tryz.isAgg3
  z3 := Tryz.sizeOf3
  v3 := Tryz.zeroValue3
  t4 := Tryz.underlying4
  a4 := Tryz.isAgg4
  z4 := Tryz.sizeOf4
  v4 := Tryz.zeroValue4
  t9 := Tryz.underlying9
  a9 := Tryz.isAgg9
  z9 := Tryz.sizeOf9
  v9 := Tryz.zeroValue9
  t24 := Tryz.underlying245
  a24 := Tryz.isAgg245
  z24 := Tryz.sizeOf245
  v24 := Tryz.zeroValue245 }
def Tryz.laysJoin_ren : Go.Shelf.Ren := ⟨fun | 156 => 212 | 165 => 186 | 166 => 145 | 169 => 146 | 240 => 182 | 241 => 220 | 276 => 215 | 277 => 254 | n => n, fun | 31 => 106 | 9 => 9 | 3 => 3 | 4 => 4 | 0 => 0 | 20 => 20 | 72 => 212 | 76 => 215 | 70 => 209 | 37 => 210 | 75 => 214 | 127 => 241 | 164 => 267 | 5 => 5 | 80 => 169 | n => n, fun | n => n⟩
theorem Tryz.laysJoin : Go.Proofs.Lays.n156 Tryz.prog Tryz.laysJoin_ren := {
  mixed := by kernel_rfl
  f156 := Tryz.func212.trans (congrArg some (by kernel_rfl))
  f165 := Tryz.func186.trans (congrArg some (by kernel_rfl))
  f166 := Tryz.func145.trans (congrArg some (by kernel_rfl))
  f169 := Tryz.func146.trans (congrArg some (by kernel_rfl))
  f240 := Tryz.func182.trans (congrArg some (by kernel_rfl))
  f241 := Tryz.func220.trans (congrArg some (by kernel_rfl))
  f276 := Tryz.func215.trans (congrArg some (by kernel_rfl))
  f277 := Tryz.func254.trans (congrArg some (by kernel_rfl))
  t0 := Tryz.underlying0
  a0 := Tryz.isAgg0
  z0 := Tryz.sizeOf0
  v0 := Tryz.zeroValue0
  t3 := Tryz.underlying3
  a3 := Tryz.isAgg3
  z3 := Tryz.sizeOf3
  v3 := Tryz.zeroValue3
  t4 := Tryz.underlying4
  a4 := Tryz.isAgg4
  z4 := Tryz.sizeOf4
  v4 := Tryz.zeroValue4
  t9 := Tryz.underlying9
  a9 := Tryz.isAgg9
  z9 := Tryz.sizeOf9
  v9 := Tryz.zeroValue9
  t20 := Tryz.underlying20
  a20 := Tryz.isAgg20
  z20 := Tryz.sizeOf20
  v20 := Tryz.zeroValue20
  t31 := Tryz.underlying106
  a31 := Tryz.isAgg106
  z31 := Tryz.sizeOf106
  v31 := Tryz.zeroValue106
  t37 := Tryz.underlying210
  a37 := Tryz.isAgg210
  z37 := Tryz.sizeOf210
  v37 := Tryz.zeroValue210
  t70 := Tryz.underlying209
  a70 := Tryz.isAgg209
  z70 := Tryz.sizeOf209
  v70 := Tryz.zeroValue209
  t72 := Tryz.underlying212
  a72 := Tryz.isAgg212
  z72 := Tryz.sizeOf212
  v72 := Tryz.zeroValue212
  t75 := Tryz.underlying214
  a75 := Tryz.isAgg214
  z75 := Tryz.sizeOf214
  v75 := Tryz.zeroValue214
  t76 := Tryz.underlying215
  a76 := Tryz.isAgg215
  z76 := Tryz.sizeOf215
  v76 := Tryz.zeroValue215
  t127 := Tryz.underlying241
  a127 := Tryz.isAgg241
  z127 := Tryz.sizeOf241
  v127 := Tryz.zeroValue241
  t164 := Tryz.underlying267
  a164 := Tryz.isAgg267
  z164 := Tryz.sizeOf267
  v164 := Tryz.zeroValue267 }
theorem Tryz.joinX : Builder.Extra Tryz.prog Tryz.laysJoin_ren := {
  sizeBuilder := by kernel_rfl
  liesBuilder := by kernel_rfl
  t5 := Tryz.underlying5
  a5 := Tryz.isAgg5
  z5 := Tryz.sizeOf5
  v5 := Tryz.zeroValue5
  infoByte := by kernel_rfl
  cellsByte := by kernel_rfl
  sizeByte := by kernel_rfl
  neB5 := by decide }
end Go.Proofs.YtcpaaleogmiamaaGreatDoor
