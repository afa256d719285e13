/- The walk of strand.Open (at a prefix and a size that are right). -/
/- A range over a function whose loop body is told what its element's memory holds. -/
import Derived.Test.YtcpaaleogmiamaaGreatDoorMp28
import Derived.Test.YtcpaaleogmiamaaGreatDoorBase
import Derived.RangeFuncNested
import Derived.RangeFuncCalls
import Derived.RangeFuncLeaves
import Derived.OwnWalkIn
import Derived.Deep.AppendLies
namespace Go.Proofs.YtcpaaleogmiamaaGreatDoor
open Go.RowKit

/-- A tape alone, above a world that stands. -/
structure Td (w0 w : World) (b mb : Nat) (L : TpL) (t : Tp) : Prop where
  tp : TpAt w b mb L t
  names : NamesOk t
  base : Below w0.heap.size w0 w
  above : ∀ k, TpF b mb L k → w0.heap.size ≤ k
theorem Sd.td {w0 w : World} {S : Nat → Prop} {sb b mb : Nat} {L : TpL} {x : St} {t : Tp} (h : Sd w0 w S sb b mb L x t) : Td w0 w b mb L t := ⟨h.tp, h.names, h.base, h.aboveT⟩
theorem Td.below {w0 w w' : World} {b mb : Nat} {L : TpL} {t : Tp} (h : Td w0 w b mb L t) (hb : Below w.heap.size w w') : Td w0 w' b mb L t := ⟨h.tp.below hb, h.names, h.base.trans (hb.mono h.base.size), h.above⟩
theorem Td.tape {w0 w w' : World} {b mb : Nat} {L L' : TpL} {t t' : Tp} (h : Td w0 w b mb L t) (ht : TpAt w' b mb L' t') (hu : Upd (TpF b mb L) w w') (hn : ∀ k ∈ tpBlocks L', k ∈ tpBlocks L ∨ w.heap.size ≤ k) (hk : NamesOk t') : Td w0 w' b mb L' t' :=
  ⟨ht, hk, h.base.trans (hu.toBelow h.base.size h.above), fun k hk => (TpF.new hn k hk).elim (h.above k) (fun h1 => Nat.le_trans h.base.size h1)⟩
theorem Td.env {w0 w : World} {b mb : Nat} {L : TpL} {t : Tp} (h : Td w0 w b mb L t) (hE : Env w0) : Env w := hE.below h.base

def freshN (pre : List UInt8) : List UInt8 := pre ++ 46 :: [110, 101, 119]
def openS (t : Tp) (pre : List UInt8) (size : Int) : Tp × Option St × Int :=
  if t.down = true then (t, none, 10)
  else if (dropT t (freshN pre)).2 = 10 then ((dropT t (freshN pre)).1, none, 10)
  else if (findT (dropT t (freshN pre)).1 ⟨pre, size, [], t.life, false⟩).2.2 = 0 then ((findT (dropT t (freshN pre)).1 ⟨pre, size, [], t.life, false⟩).1, some (findT (dropT t (freshN pre)).1 ⟨pre, size, [], t.life, false⟩).2.1, 0)
  else ((findT (dropT t (freshN pre)).1 ⟨pre, size, [], t.life, false⟩).1, none, (findT (dropT t (freshN pre)).1 ⟨pre, size, [], t.life, false⟩).2.2)
/-- What Open leaves. -/
def OpTo (w0 w : World) (b mb : Nat) (L : TpL) (r : Tp × Option St × Int) (e : Ending) (w' : World) : Prop :=
  ∃ L', Upd (TpF b mb L) w w' ∧ (∀ k ∈ tpBlocks L', k ∈ tpBlocks L ∨ w.heap.size ≤ k) ∧ Td w0 w' b mb L' r.1 ∧ match r.2.1 with
    | none => e = .returned (.tuple #[.pointer none, .int .i64 r.2.2])
    | some x => ∃ sb S, e = .returned (.tuple #[.pointer (some ⟨sb, 0, none⟩), .int .i64 r.2.2]) ∧ Sd w0 w' S sb b mb L' x r.1 ∧ ∀ k, S k → w.heap.size ≤ k

/-- A strand that has just been made. -/
theorem Td.newS {w0 w w1 : World} {b mb sb : Nat} {L : TpL} {t : Tp} (h : Td w0 w b mb L t) {pre : List UInt8} {size : Int} (hp : 1 ≤ pre.length ∧ pre.length ≤ 16) (hs : 1 ≤ size ∧ size ≤ 1048576) (hb : Below w.heap.size w w1) (hsb : w.heap.size ≤ sb) {l : Int}
    (hc : w1.heap[sb]? = some (.cells #[.pointer (some ⟨b, 0, none⟩), .string (bs pre), .int .i64 size, .slice none 0 0, .int .i64 l, .bool false] 161 (0, 0))) :
    Sd w0 w1 (fun k => k = sb) sb b mb L ⟨pre, size, [], l, false⟩ t := by
  have h1 := h.below hb
  refine ⟨⟨_, [], fun _ => False, ⟨hc, rfl, ⟨rfl, .inl ⟨rfl, rfl⟩⟩, by simp, fun k hk => hk.elim, rfl, fun g hg => by simp [Value.ownBlock] at hg, ?_⟩⟩, h1.tp, ?_, ⟨hp, hs, by simp⟩, h.names, h1.base, ?_, h.above⟩
  · rintro k rfl
    exact (Array.getElem?_eq_some_iff.1 hc).1
  · rintro k hk rfl
    have := h.tp.fLt _ hk
    omega
  · rintro k rfl
    exact Nat.le_trans h.base.size hsb

theorem findT_pre (t : Tp) (x : St) : (findT t x).2.1.pre = x.pre ∧ (findT t x).2.1.size = x.size ∧ (findT t x).2.1.life = x.life ∧ (findT t x).2.1.dead = x.dead := ⟨rfl, rfl, rfl, rfl⟩

set_option maxRecDepth 100000 in
set_option maxHeartbeats 4000000 in
theorem StOpen_any {w0 w : World} {b mb : Nat} {L : TpL} {t : Tp} (hE : Env w0) (h : Td w0 w b mb L t) {pre : List UInt8} {size : Int} (hp : 1 ≤ pre.length ∧ pre.length ≤ 16) (hs : 1 ≤ size ∧ size ≤ 1048576) :
    Calls Tryz.prog 38 #[.pointer (some ⟨b, 0, none⟩), .string (bs pre), .int .i64 size] w (OpTo w0 w b mb L (openS t pre size)) := by
  have hz := bs_size pre
  have e1 : ¬ (bs pre).toList = [] := by rw [bs_toList]; intro h; rw [h] at hp; simp at hp
  have e3 : (bs pre).toList.isEmpty = false := by rw [bs_toList]; cases pre with | nil => simp at hp | cons => rfl
  have z1 : ¬ (16 : Int) < ((bs pre).size : Int) := by omega
  have z2 : ¬ size < 1 := by omega
  have z3 : ¬ (1048576 : Int) < size := by omega
  obtain ⟨R, hR⟩ : ∃ R, openS t pre size = R := ⟨_, rfl⟩
  rw [hR]
  have hdn := TDown_any h.tp
  have hlf := TLife_any h.tp
  obtain ⟨dn, hdn2⟩ : ∃ dn, t.down = dn := ⟨_, rfl⟩
  rw [openS, hdn2] at hR
  rw [hdn2] at hdn
  have HDN := Lib.hid hdn
  have HLF := Lib.hid hlf
  have H := Lib.hid h
  have HP := Lib.hid (And.intro hp hs)
  clear hdn hlf h hz hdn2
  cases dn with
  | true =>
    rw [if_pos rfl] at hR
    subst hR
    clear hp hs
    go_enter Tryz.func38, Tryz.ntmps38
    go_wp2_with (first | (go_at_call 62; refine HDN.out.mono ?_; rintro _ w1 ⟨rfl, rfl⟩))
    refine bodyPost_ret (v := .tuple #[.pointer none, .int .i64 10]) (by simp [results, Tryz.results38, go_sem]) rfl ?_
    exact ⟨L, Upd.refl _ _, fun _ h => .inl h, H.out, rfl⟩
  | false =>
    rw [if_neg (by decide)] at hR
    obtain ⟨l, hl⟩ : ∃ l, t.life = l := ⟨_, rfl⟩
    rw [hl] at hR HLF
    have HR := Lib.hid hR
    clear hR hl hp hs
    go_enter Tryz.func38, Tryz.ntmps38
    go_wp2_with (first | (go_at_call 62; refine HDN.out.mono ?_; rintro _ w1 ⟨rfl, rfl⟩) | (go_at_call 63; refine HLF.out.mono ?_; rintro _ w2 ⟨rfl, rfl⟩))
    obtain ⟨w, hw⟩ : ∃ w, w = w2 := ⟨_, rfl⟩
    subst hw
    obtain ⟨sb, hsb⟩ : ∃ sb, w.heap.size = sb := ⟨_, rfl⟩
    obtain ⟨w3, hw3⟩ : ∃ w3, w3 = w.alloc (.cells #[.pointer (some ⟨b, 0, none⟩), .string (bs pre), .int .i64 size, .slice none 0 0, .int .i64 l, .bool false] 161) := ⟨_, rfl⟩
    have hc : w3.heap[sb]? = some (.cells #[.pointer (some ⟨b, 0, none⟩), .string (bs pre), .int .i64 size, .slice none 0 0, .int .i64 l, .bool false] 161 (0, 0)) := by rw [hw3, ← hsb]; exact heap_alloc_new _ _
    have hb : Below w.heap.size w w3 := by rw [hw3]; exact below_alloc _ _
    have hsd := H.out.newS HP.out.1 HP.out.2 hb (Nat.le_of_eq hsb) hc
    have hfs := Stfresh_any hsd.st hsd.ok
    have hts := TDrop_any hsd.tp (freshN pre)
    have hnk := dropT_names hsd.names (freshN pre)
    obtain ⟨c, hcc⟩ : ∃ c, (dropT t (freshN pre)).2 = c := ⟨_, rfl⟩
    obtain ⟨t', ht'⟩ : ∃ t', (dropT t (freshN pre)).1 = t' := ⟨_, rfl⟩
    have hRq := HR.out
    rw [hcc, ht'] at hRq hts
    rw [ht'] at hnk
    rw [← hw3, hsb]
    have HFS := Lib.hid hfs
    have HTS := Lib.hid hts
    have HSD := Lib.hid (And.intro hsd (And.intro hnk (And.intro hb hsb)))
    have HRQ := Lib.hid hRq
    clear hfs hts hnk hRq hcc ht' HR hw3 hc hb hsb hsd HDN HLF
    refine HFS.out.mono ?_
    rintro _ wv ⟨rfl, hwv⟩
    subst hwv
    go_wp2_with fail
    refine HTS.out.mono ?_
    rintro _ w4 ⟨rfl, L4, ht4, hu4, hn4⟩
    have htd : Td w0 w4 b mb L4 t' := HSD.out.1.td.tape ht4 hu4 hn4 HSD.out.2.1
    have hzw := HSD.out.2.2.1.size
    have hn5 : ∀ k ∈ tpBlocks L4, k ∈ tpBlocks L ∨ w.heap.size ≤ k := fun k hk => (hn4 k hk).imp id (fun h => Nat.le_trans hzw h)
    have hu04 : Upd (TpF b mb L) w w4 := (Upd.of_below HSD.out.2.2.1).trans hu4
    by_cases hc10 : c = 10
    · subst hc10
      have hfin : OpTo w0 w b mb L R (.returned (.tuple #[.pointer none, .int .i64 10])) w4 := by
        rw [← HRQ.out, if_pos rfl]
        exact ⟨L4, hu04, hn5, htd, rfl⟩
      have HFIN := Lib.hid hfin
      clear hfin htd hn5 hu04 ht4 hu4 hn4 HRQ HSD HFS HTS
      go_wp2
      refine bodyPost_ret (v := .tuple #[.pointer none, .int .i64 10]) (by simp [results, Tryz.results38, go_sem]) rfl ?_
      exact HFIN.out
    · have hc1 : (c == 10) = false := by simpa using hc10
      have hd4 := HSD.out.1.tape ht4 hu4 hn4 HSD.out.2.1
      have hfi := Stfind_any hE hd4 rfl
      obtain ⟨fr, hfr⟩ : ∃ fr, findT t' ⟨pre, size, [], l, false⟩ = fr := ⟨_, rfl⟩
      have hRq := HRQ.out
      rw [if_neg hc10, hfr] at hRq
      rw [hfr] at hfi
      obtain ⟨t6, x6, c6⟩ := fr
      simp only at hRq
      have HFI := Lib.hid hfi
      have HR2 := Lib.hid hRq
      have HU := Lib.hid (And.intro hu04 (And.intro hn5 (And.intro hzw HSD.out.2.2.2)))
      clear hfi hRq hfr HRQ HSD HFS HTS htd hd4 hu04 hn5 ht4 hu4 hn4 hzw hc10
      go_wp2_with fail
      refine HFI.out.mono ?_
      rintro e w5 ⟨S5, L5, rfl, hd5, hu5, hS5, hL5⟩
      simp only at hd5
      have hz4 := HU.out.1.size
      have hS6 : ∀ k, S5 k → w.heap.size ≤ k := fun k hk => (hS5 k hk).elim (fun h => by have := HU.out.2.2.2; omega) (fun h => by omega)
      have hL6 : ∀ k ∈ tpBlocks L5, k ∈ tpBlocks L ∨ w.heap.size ≤ k := fun k hk => (hL5 k hk).elim (HU.out.2.1 k) (fun h => .inr (by omega))
      have hu6 : Upd (TpF b mb L) w w5 := by
        have h1 : Upd (fun k => TpF b mb L k ∨ w.heap.size ≤ k) w w5 := (HU.out.1.mono (fun _ _ h => .inl h)).trans (hu5.mono (fun k _ h => h.elim (fun h => .inr (by have := HU.out.2.2.2; omega)) (fun h => TpF.new HU.out.2.1 k h)))
        exact h1.mono (fun k hk h => h.elim id (fun h => by omega))
      by_cases hc6 : c6 = 0
      · subst hc6
        have hfin : OpTo w0 w b mb L R (.returned (.tuple #[.pointer (some ⟨sb, 0, none⟩), .int .i64 0])) w5 := by
          rw [← HR2.out, if_pos rfl]
          exact ⟨L5, hu6, hL6, hd5.td, sb, S5, rfl, hd5, hS6⟩
        have HFIN := Lib.hid hfin
        clear hfin hd5 hu5 hS5 hL5 hS6 hL6 hu6 HR2 HU HFI
        go_wp2
        refine bodyPost_ret (v := .tuple #[.pointer (some ⟨sb, 0, none⟩), .int .i64 0]) (by simp [results, Tryz.results38, go_sem]) rfl ?_
        exact HFIN.out
      · have hc7 : (c6 != 0) = true := by simpa using hc6
        have hfin : OpTo w0 w b mb L R (.returned (.tuple #[.pointer none, .int .i64 c6])) w5 := by
          rw [← HR2.out, if_neg hc6]
          exact ⟨L5, hu6, hL6, hd5.td, rfl⟩
        have HFIN := Lib.hid hfin
        clear hfin hd5 hu5 hS5 hL5 hS6 hL6 hu6 HR2 HU HFI hc6
        go_wp2
        refine bodyPost_ret (v := .tuple #[.pointer none, .int .i64 c6]) (by simp [results, Tryz.results38, go_sem]) rfl ?_
        exact HFIN.out
end Go.Proofs.YtcpaaleogmiamaaGreatDoor
namespace Go.Proofs.YtcpaaleogmiamaaGreatDoor
open Go.RowKit

/-- append, in a walk under a fence: where the longer row lies. -/
theorem wpListIn_append_at {F : Fence} {n : Nat} {P : Program} (w : World) {ops : Array Oper} {rest : List Oper} {o : Oper} {a : Act} {Q : Exit → Act → World → Prop} (hg : o.guard = none) (s x : Operand) (t : TypeId)
    (hop : o.op = Op.call { callee := Callee.builtin Builtin.append, args := #[s, x], argTypes := #[t, t] }) (base : Nat) (e : TypeId) (i : TypeInfo) (z : Value) (size bytes : Nat) (h1 : P.underlying t = some (.slice e)) (h2 : P.info? e = some i) (h3 : i.zero = some z) (h4 : i.size = size) (h5 : i.bytes = bytes)
    (h6 : z.cells.size = size) (h7 : 0 < size) (v : Value) (k : Nat) (xs : List Value) (hs : a.eval s = v) (hown : w.ownsRow base e size v k xs) (ad : Addr) (m c : Nat) (news : List Value) (hx : a.eval x = .slice (some ad) m c) (hn : news.length = m * size)
    (hc : ∀ j u, news[j]? = some u → w.cell? (ad.add j) = some u) (h1c : ∀ u ∈ news, u.oneCell' = true) (hm : 0 < m) (b1 : k + m ≤ maxLen) (b2 : (k + m) * bytes ≤ 140737488355328) (b3 : base ≤ w.heap.size)
    (hK : ∀ g cap w', w'.ownsRow base e size (.slice (some ⟨g, 0, none⟩) (k + m) cap) (k + m) (xs ++ news) → w.grownBy w' v.ownBlock → (v.ownBlock = some g ∨ g = w.heap.size) → wpListIn F n P ops Q rest (a.put o.dst (.slice (some ⟨g, 0, none⟩) (k + m) cap)) w') :
    wpListIn F n P ops Q (o :: rest) a w := by
  refine wpListIn_plain hg fun K hK' => ?_
  obtain ⟨g, cap, w', hrun, r1, r2, r3, -⟩ := run_append_lies (P := P) (w := w) t o.type base e i z size bytes h1 h2 h3 h4 h5 h6 h7 v k xs hown ad m c news hn hc h1c hm b1 b2 b3 _ rfl
  unfold Oper.wpIn
  refine ⟨by simp [Oper.about, hop, resolve, Target.leads, Sem.run_pure], ?_⟩
  rw [Oper.semAt_plain F _ _ (by rw [hop]; intro c hc'; cases hc')]
  simp [execOp, hop, resolve, invoke, builtin, hs, hx, hrun, Result.andThen]
  exact hK' _ _ (hK g cap w' r1 r2 r3)

/-- What an iterator promises to each loop body: Pre: what is known of an element's memory when it comes; G: what lay ahead of the loop and the body writes; C: what lies at or beyond C the body has laid, or nobody wants. -/
def SeqP {α : Type} (n : Nat) (P : Program) (gf : Nat) (lb : Array Value) (encs : α → Array Value) (Pre : Nat → α → World → Prop) (G : Nat → Prop) (S Sp : List α → Prop) (w : World) : Prop :=
  ∀ (l : Nat) (J Jx : Nat → List α → World → Prop) (W : World), Below w.heap.size w W →
    (∀ C s A B, J C s A → Below A.heap.size A B → J C s B) → (∀ C s A B, Jx C s A → Below A.heap.size A B → Jx C s B) →
    (∀ C pre x A0 A, W.heap.size ≤ C → C ≤ A0.heap.size → J C pre A0 → Below A0.heap.size A0 A → Pre A0.heap.size x A → Sp (pre ++ [x]) → YieldAt Fence.wide (n - 1) P l (encs x) A fun e B =>
      (e = .returned (.bool true) ∧ J C (pre ++ [x]) B ∧ Upd (fun k => G k ∨ C ≤ k ∨ k = l) A B) ∨ (e = .returned (.bool false) ∧ Jx C (pre ++ [x]) B)) →
    (∀ A, Below W.heap.size W A → J A.heap.size [] A) → w.heap.size ≤ l → l < W.heap.size →
    CallsIn Fence.wide n P gf (#[.func (.yield l) #[] #[]] ++ lb) W fun e B => (∃ v, e = .returned v) ∧ ((∃ C xs, S xs ∧ J C xs B) ∨ (∃ C pre, Sp pre ∧ Jx C pre B))

/-- What a loop body's round has written. -/
def RoundUpd (G : Nat → Prop) (C : Nat) (A B : World) : Prop := ∃ H : Nat → Prop, Upd H A B ∧ ∀ k, H k → (G k ∨ C ≤ k) ∧ ∃ cs t f, A.heap[k]? = some (.cells cs t f)
def roundQ {α : Type} (G : Nat → Prop) (I : Nat → List α → World → Prop) (Ix : Code → Nat → List α → World → Prop) (C : Nat) (xs : List α) (A : World) : Exit → Act → World → Prop
  | .normal, _, B => RoundUpd G C A B ∧ I C xs B
  | .ret, _, B => RoundUpd G C A B ∧ Ix .ret C xs B
  | .exit id, _, B => RoundUpd G C A B ∧ Ix (.exit id) C xs B
  | .goto t, _, B => RoundUpd G C A B ∧ Ix (.goto t) C xs B
  | .panic _, _, _ => False
  | .outgrown, _, _ => False

theorem upd_putObj (A : World) (l : Nat) (o : Obj) : Upd (fun k => k = l) A (A.putObj l o) := ⟨rfl, rfl, rfl, by simp, fun _ _ hn => World.putObj_heap_other hn⟩
theorem upd_cells {F : Nat → Prop} {A B : World} (h : Upd F A B) {k : Nat} {o : Obj} (hk : A.heap[k]? = some o) (ho : o.isCells = false) (hF : ∀ k, F k → ∃ cs t f, A.heap[k]? = some (.cells cs t f)) : B.heap[k]? = some o :=
  (h.block k (Array.getElem?_eq_some_iff.1 hk).1 (fun hf => by
    obtain ⟨cs, t, f, e⟩ := hF k hf
    rw [hk] at e
    cases e
    cases ho)).trans hk

/-- The statement 'for .. := range g { .. }'. -/
theorem wp_rangeP {P : Program} {α : Type} {n : Nat} {g : Operand} {ps : Array Tmp} {assign body : Code} {Q : Exit → Act → World → Prop} {a : Act} {w : World} {gf : Nat} {lb : Array Value}
    (hg : a.eval g = .func (.func gf) #[] lb) (eg : ∀ args w, (callFunc gf args).run P w = .ok (.enter gf args) w) {encs : α → Array Value} {Pre : Nat → α → World → Prop} {G : Nat → Prop} {S Sp : List α → Prop}
    (hseq : SeqP (n - 1) P gf lb encs Pre G S Sp w) (hps : ∀ x, (encs x).size = ps.size) (I : Nat → List α → World → Prop) (Ix : Code → Nat → List α → World → Prop)
    (hIb : ∀ C s A B, I C s A → Below A.heap.size A B → I C s B) (hXb : ∀ c C s A B, Ix c C s A → Below A.heap.size A B → Ix c C s B)
    (hIp : ∀ C s A l o o', I C s A → w.heap.size ≤ l → A.heap[l]? = some o → o.isCells = false → I C s (A.putObj l o'))
    (hXp : ∀ c C s A l o o', Ix c C s A → w.heap.size ≤ l → A.heap[l]? = some o → o.isCells = false → Ix c C s (A.putObj l o'))
    (hPp : ∀ N x A l o o', Pre N x A → w.heap.size ≤ l → A.heap[l]? = some o → o.isCells = false → Pre N x (A.putObj l o'))
    (h0 : ∀ A, Below w.heap.size w A → I A.heap.size [] A) (Ax : Nat → α → Act → World → Prop)
    (hAp : ∀ C x a A l o o', Ax C x a A → w.heap.size ≤ l → A.heap[l]? = some o → o.isCells = false → Ax C x a (A.putObj l o'))
    (hPb : ∀ N x A B, Pre N x A → Below A.heap.size A B → Pre N x B)
    (hassign : ∀ (l C : Nat) (pre : List α) (x : α) (A0 A : World), w.heap.size ≤ C → C ≤ A0.heap.size → I C pre A0 → Below A0.heap.size A0 A → Pre A0.heap.size x A →
      assign.wpIn (Fence.wide.inRound l) (n - 1 - 1) P (Exit.then (fun a' B => Below A.heap.size A B ∧ Ax C x a' B) (fun _ _ _ => False)) { tmps := (ps.zip (encs x)).foldl (fun t (p, v) => t.setIfInBounds p v) a.tmps, defers := [] } A)
    (hbody : ∀ (l C : Nat) (pre : List α) (x : α) (a' : Act) (A0 A : World), w.heap.size ≤ C → C ≤ A0.heap.size → I C pre A0 → w.heap.size ≤ l → (∃ o : Obj, A0.heap[l]? = some o ∧ o.isCells = false) → Upd (fun k => k = l) A0 A → Pre A0.heap.size x A → Ax C x a' A → Sp (pre ++ [x]) → body.wpIn (Fence.wide.inRound l) (n - 1 - 1) P (roundQ G I Ix C (pre ++ [x]) A) a' A)
    (hdone : ∀ (D C : Nat) (xs : List α) (A : World), w.heap.size ≤ D → S xs → I C xs A → A.heap[D]? = some (.deferred (some [])) → Q .normal { a with defers := { target := .collected D, args := #[] } :: a.defers } A)
    (hstop : ∀ (D : Nat) (c : Code) (C : Nat) (pre : List α) (A : World), w.heap.size ≤ D → Sp pre → Ix c C pre A → A.heap[D]? = some (.deferred (some [])) → c.wpIn Fence.wide n P Q { a with defers := { target := .collected D, args := #[] } :: a.defers } A) :
    (Code.rangeFunc g ps assign body).wpIn Fence.wide n P Q a w := by
  refine wpIn_rangeFunc (fun fn hfn => ?_)
  obtain ⟨D, hD⟩ : ∃ D, w.heap.size = D := ⟨_, rfl⟩
  obtain ⟨rc, hrc⟩ : ∃ rc : LoopState → Option Code → Loop, rc = fun st pe => { state := st, pending := pe, fn := fn, tmps := a.tmps, params := ps, assign := assign, body := body, defers := D } := ⟨_, rfl⟩
  obtain ⟨W1, hW1⟩ : ∃ W1, W1 = (w.alloc (.deferred (some []))).alloc (.loop (rc .ready none)) := ⟨_, rfl⟩
  have hb1 : Below w.heap.size w W1 := by rw [hW1]; exact ((Below.refl _ w).alloc (Nat.le_refl _) _).alloc (by simp) _
  have hs1 : W1.heap.size = D + 2 := by rw [hW1, ← hD]; simp
  have hr1 : W1.heap[D + 1]? = some (.loop (rc .ready none)) := by
    have e := World.alloc_heap_new (w.alloc (.deferred (some []))) (.loop (rc .ready none))
    rw [World.size_alloc, hD] at e
    rw [hW1]; exact e
  have hd1 : W1.heap[D]? = some (.deferred (some [])) := by
    have e := World.alloc_heap_new w (.deferred (some []))
    rw [hD] at e
    rw [hW1]
    exact (Below.heap_alloc _ _ _ (by simp; omega)).trans e
  refine ⟨D + 1, [{ target := .collected D, args := #[] }], W1, { target := .fn (.func gf) lb, args := #[.func (.yield (D + 1)) #[] #[]] }, W1, gf, #[.func (.yield (D + 1)) #[] #[]] ++ lb, W1, ?_, ?_, fun _ _ => trivial, ?_, (fun h => by cases h), ?_⟩
  · have e := run_enterLoop_outer (P := P) (w := w) fn a.tmps ps assign body
    rw [hD] at e
    rw [hW1, hrc]
    exact e
  · simp only [resolve, hg]
    simp [go_sem]
  · simp [invoke, go_sem, eg]
  have hkeep : ∀ {A B : World} {F : Nat → Prop} {k : Nat} {o : Obj}, Below A.heap.size A B → A.heap[k]? = some o → B.heap[k]? = some o := fun hb hk => (hb.block _ (Array.getElem?_eq_some_iff.1 hk).1).trans hk
  refine (hseq (D + 1) (fun C s A => I C s A ∧ A.heap[D + 1]? = some (.loop (rc .ready none)) ∧ A.heap[D]? = some (.deferred (some [])))
    (fun C s A => ∃ c, Ix c C s A ∧ A.heap[D + 1]? = some (.loop (rc .done (some c))) ∧ A.heap[D]? = some (.deferred (some []))) W1 hb1 ?_ ?_ ?_ ?_ (by omega) (by omega)).mono ?_
  · rintro C s A B ⟨h1, h2, h3⟩ hb
    exact ⟨hIb C s A B h1 hb, hkeep (F := fun _ => False) hb h2, hkeep (F := fun _ => False) hb h3⟩
  · rintro C s A B ⟨c, h1, h2, h3⟩ hb
    exact ⟨c, hXb c C s A B h1 hb, hkeep (F := fun _ => False) hb h2, hkeep (F := fun _ => False) hb h3⟩
  · rintro C pre x Az A hC hCA ⟨hi, hl, hd⟩ hbA hp hsp
    have hlA := hkeep (F := fun _ => False) hbA hl
    have hy := run_yield (P := P) (args := encs x) hlA (by rw [hrc]; exact hps x)
    rw [hrc] at hy
    refine ⟨fn, _, assign, body, hy, roundIn_of_wpIn hfn (wpIn_mono (hassign (D + 1) C pre x Az A (by omega) hCA hi hbA hp) ?_)⟩
    clear hy
    rintro e0 a0 A1 hq0
    cases e0 with
    | exit id => exact hq0.elim
    | goto t => exact hq0.elim
    | ret => exact hq0.elim
    | panic ch => exact hq0.elim
    | outgrown => exact hq0.elim
    | normal =>
    obtain ⟨hb0, hax⟩ := hq0
    have hbz : Below Az.heap.size Az A1 := hbA.trans (hb0.mono hbA.size)
    have hl1 := hkeep (F := fun _ => False) hb0 hlA
    have hd1 := hkeep (F := fun _ => False) hbz hd
    refine ⟨_, run_beginRound hl1 (by rw [hrc]), ?_⟩
    obtain ⟨A2, hA2⟩ : ∃ A2, A2 = A1.putObj (D + 1) (.loop { rc .ready none with state := .busy }) := ⟨_, rfl⟩
    rw [← hA2]
    have hu2 : Upd (fun k => k = D + 1) A1 A2 := by rw [hA2]; exact upd_putObj _ _ _
    have hlt := (Array.getElem?_eq_some_iff.1 hl1).1
    have hl2 : A2.heap[D + 1]? = some (.loop { rc .ready none with state := .busy }) := by rw [hA2]; exact World.putObj_heap_same hlt
    have hd2 : A2.heap[D]? = some (.deferred (some [])) := by rw [hA2]; exact (World.putObj_heap_other (by omega)).trans hd1
    have hp2 : Pre Az.heap.size x A2 := by rw [hA2]; exact hPp _ x A1 _ _ _ (hPb _ x A A1 hp hb0) (by omega) hl1 rfl
    have huz : Upd (fun k => k = D + 1) Az A2 := (Upd.of_below hbz).trans hu2
    have hax2 : Ax C x a0 A2 := by rw [hA2]; exact hAp C x a0 A1 _ _ _ hax (by omega) hl1 rfl
    refine wpIn_mono (hbody (D + 1) C pre x a0 Az A2 (by omega) hCA hi (by omega) ⟨_, hl, rfl⟩ huz hp2 hax2 hsp) ?_
    have fin : ∀ (jump : Option Code) (A3 : World), RoundUpd G C A2 A3 → ∃ A4, A4 = A3.putObj (D + 1) (.loop (rc (if jump.isNone then .ready else .done) jump)) ∧ (Instr.endRound (D + 1) jump).run P A3 = .ok (.bool jump.isNone) A4 ∧
        A3.heap[D + 1]? = some (.loop { rc .ready none with state := .busy }) ∧ A4.heap[D + 1]? = some (.loop (rc (if jump.isNone then .ready else .done) jump)) ∧ A4.heap[D]? = some (.deferred (some [])) ∧ Upd (fun k => G k ∨ C ≤ k ∨ k = D + 1) A A4 := by
      rintro jump A3 ⟨H, hu, hH⟩
      have hl3 := upd_cells hu hl2 rfl (fun k hk => (hH k hk).2)
      have hd3 := upd_cells hu hd2 rfl (fun k hk => (hH k hk).2)
      have he := run_endRound (P := P) jump hl3
      rw [hrc] at he hl3
      refine ⟨_, rfl, by rw [hrc]; exact he, by rw [hrc]; exact hl3, World.putObj_heap_same (Array.getElem?_eq_some_iff.1 hl3).1, (World.putObj_heap_other (by omega)).trans hd3, ?_⟩
      exact (((Upd.of_below hb0).trans (hu2.mono (fun k _ e => .inr (.inr e)))).trans (hu.mono (fun k _ hk => (hH k hk).1.elim .inl (fun h => .inr (.inl h))))).trans ((upd_putObj _ _ _).mono (fun k _ e => .inr (.inr e)))
    rintro e a3 A3 hq
    cases e with
    | normal =>
      obtain ⟨hr, hi3⟩ := hq
      obtain ⟨A4, hA4, hrun, hl3, hl4, hd4, hu4⟩ := fin none A3 hr
      refine ⟨_, _, hrun, .inl ⟨rfl, ⟨?_, hl4, hd4⟩, hu4⟩⟩
      rw [hA4]; exact hIp _ _ _ _ _ _ hi3 (by omega) hl3 rfl
    | ret =>
      obtain ⟨hr, hi3⟩ := hq
      obtain ⟨A4, hA4, hrun, hl3, hl4, hd4, hu4⟩ := fin (some .ret) A3 hr
      refine ⟨_, _, hrun, .inr ⟨rfl, .ret, ?_, hl4, hd4⟩⟩
      rw [hA4]; exact hXp _ _ _ _ _ _ _ hi3 (by omega) hl3 rfl
    | exit id =>
      obtain ⟨hr, hi3⟩ := hq
      obtain ⟨A4, hA4, hrun, hl3, hl4, hd4, hu4⟩ := fin (some (.exit id)) A3 hr
      refine ⟨_, _, hrun, .inr ⟨rfl, .exit id, ?_, hl4, hd4⟩⟩
      rw [hA4]; exact hXp _ _ _ _ _ _ _ hi3 (by omega) hl3 rfl
    | goto t =>
      obtain ⟨hr, hi3⟩ := hq
      obtain ⟨A4, hA4, hrun, hl3, hl4, hd4, hu4⟩ := fin (some (.goto t)) A3 hr
      refine ⟨_, _, hrun, .inr ⟨rfl, .goto t, ?_, hl4, hd4⟩⟩
      rw [hA4]; exact hXp _ _ _ _ _ _ _ hi3 (by omega) hl3 rfl
    | panic ch => exact hq.elim
    | outgrown => exact hq.elim
  · intro A hb
    exact ⟨h0 A (hb1.trans (hb.mono hb1.size)), hkeep (F := fun _ => False) hb hr1, hkeep (F := fun _ => False) hb hd1⟩
  · rintro e A ⟨⟨v, rfl⟩, (⟨C, xs, hS, hi, hl, hd⟩ | ⟨C, pre, hSp, c, hi, hl, hd⟩)⟩
    · have he := run_endLoop (P := P) hl (by rw [hrc]; simp)
      rw [hrc] at he
      exact ⟨none, _, he, hdone D C xs _ (by omega) hS (hIp _ _ _ _ _ _ hi (by omega) hl rfl) ((World.putObj_heap_other (by omega)).trans hd)⟩
    · have he := run_endLoop (P := P) hl (by rw [hrc]; simp)
      rw [hrc] at he
      exact ⟨some c, _, he, hstop D c C pre _ (by omega) hSp (hXp _ _ _ _ _ _ _ hi (by omega) hl rfl) ((World.putObj_heap_other (by omega)).trans hd)⟩
end Go.Proofs.YtcpaaleogmiamaaGreatDoor
