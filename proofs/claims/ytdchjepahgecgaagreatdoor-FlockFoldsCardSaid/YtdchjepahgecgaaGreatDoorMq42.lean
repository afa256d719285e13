/- Requests in memory. -/
/- What stands in memory when a law looks at one request. -/
import Derived.Test.YtdchjepahgecgaaGreatDoorMq39
import Derived.Test.YtdchjepahgecgaaGreatDoorMq40
import Derived.Test.YtdchjepahgecgaaGreatDoorMq41
namespace Go.Proofs.YtdchjepahgecgaaGreatDoor
open Go.RowKit

def rqEl (q : Rq) : List Value := [.int .i64 q.client, .int .i64 q.n, .int .i64 q.kind, .int .i64 q.part, .int .i64 q.seq, .int .i64 q.off, .int .i64 q.max, .int .i64 q.gen, .string (bs q.group), .string (bs q.member), .slice q.ra q.rl q.rc]
theorem rqEl_len (q : Rq) : (rqEl q).length = 11 := rfl
def ReqsRd (w : World) (v : Value) (l : List Rq) : Prop := Rd w 11 v l.length (l.flatMap rqEl)

/-- The cells of a request at a place. -/
def RqAt (w : World) (b o : Nat) (q : Rq) : Prop :=
  w.cell? ⟨b, o, none⟩ = some (.int .i64 q.client) ∧ w.cell? ⟨b, o + 1, none⟩ = some (.int .i64 q.n) ∧ w.cell? ⟨b, o + 2, none⟩ = some (.int .i64 q.kind) ∧ w.cell? ⟨b, o + 3, none⟩ = some (.int .i64 q.part) ∧ w.cell? ⟨b, o + 4, none⟩ = some (.int .i64 q.seq) ∧ w.cell? ⟨b, o + 5, none⟩ = some (.int .i64 q.off) ∧
  w.cell? ⟨b, o + 6, none⟩ = some (.int .i64 q.max) ∧ w.cell? ⟨b, o + 7, none⟩ = some (.int .i64 q.gen) ∧ w.cell? ⟨b, o + 8, none⟩ = some (.string (bs q.group)) ∧ w.cell? ⟨b, o + 9, none⟩ = some (.string (bs q.member)) ∧ w.cell? ⟨b, o + 10, none⟩ = some (.slice q.ra q.rl q.rc)

theorem RqAt.below {w w' : World} {b o : Nat} {q : Rq} (h : RqAt w b o q) (hb : b < w.heap.size) (hbl : Below w.heap.size w w') : RqAt w' b o q := by
  obtain ⟨h0, h1, h2, h3, h4, h5, h6, h7, h8, h9, h10⟩ := h
  exact ⟨below_some hbl h0 hb, below_some hbl h1 hb, below_some hbl h2 hb, below_some hbl h3 hb, below_some hbl h4 hb, below_some hbl h5 hb, below_some hbl h6 hb, below_some hbl h7 hb, below_some hbl h8 hb, below_some hbl h9 hb, below_some hbl h10 hb⟩

theorem ReqsRd.cells {w : World} {v : Value} {l : List Rq} (h : ReqsRd w v l) : ∃ a cap, v = .slice a l.length cap ∧ l.length ≤ cap ∧ l.length ≤ maxLen ∧
    ∀ k (_ : k < l.length), ∃ b off, a = some ⟨b, off, none⟩ ∧ b < w.heap.size ∧ RqAt w b (off + k * 11) l[k] := by
  obtain ⟨a, cap, rfl, hc⟩ := Rd.shape h
  refine ⟨a, cap, rfl, hc, Rd.maxlen h, ?_⟩
  intro k hk
  obtain ⟨b, off, cap, e, _, _, hb, hc⟩ := Rd.at h (by omega)
  simp only [Value.slice.injEq, true_and] at e
  exact ⟨b, off, e.1, hb, hc _ _ (fl_at rqEl_len l k hk 0 _ rfl), hc _ _ (fl_at rqEl_len l k hk 1 _ rfl), hc _ _ (fl_at rqEl_len l k hk 2 _ rfl), hc _ _ (fl_at rqEl_len l k hk 3 _ rfl), hc _ _ (fl_at rqEl_len l k hk 4 _ rfl), hc _ _ (fl_at rqEl_len l k hk 5 _ rfl), hc _ _ (fl_at rqEl_len l k hk 6 _ rfl), hc _ _ (fl_at rqEl_len l k hk 7 _ rfl), hc _ _ (fl_at rqEl_len l k hk 8 _ rfl), hc _ _ (fl_at rqEl_len l k hk 9 _ rfl), hc _ _ (fl_at rqEl_len l k hk 10 _ rfl)⟩

theorem rq_limbs {w : World} {b : Nat} {q : Rq} (h : RqAt w b 0 q) : w.cell? ⟨b, 0, none⟩ = some (.int .i64 q.client) ∧ w.cell? ⟨b, 1, none⟩ = some (.int .i64 q.n) ∧ w.cell? ⟨b, 2, none⟩ = some (.int .i64 q.kind) ∧ w.cell? ⟨b, 3, none⟩ = some (.int .i64 q.part) ∧ w.cell? ⟨b, 4, none⟩ = some (.int .i64 q.seq) ∧ w.cell? ⟨b, 5, none⟩ = some (.int .i64 q.off) ∧
    w.cell? ⟨b, 6, none⟩ = some (.int .i64 q.max) ∧ w.cell? ⟨b, 7, none⟩ = some (.int .i64 q.gen) ∧ w.cell? ⟨b, 8, none⟩ = some (.string (bs q.group)) ∧ w.cell? ⟨b, 9, none⟩ = some (.string (bs q.member)) ∧ w.cell? ⟨b, 10, none⟩ = some (.slice q.ra q.rl q.rc) := by
  obtain ⟨h0, h1, h2, h3, h4, h5, h6, h7, h8, h9, h10⟩ := h
  exact ⟨h0, by simpa using h1, by simpa using h2, by simpa using h3, by simpa using h4, by simpa using h5, by simpa using h6, by simpa using h7, by simpa using h8, by simpa using h9, by simpa using h10⟩

theorem box_rq {w : World} {b : Nat} {q : Rq} (h : w.heap[b]? = some q.box) : RqAt w b 0 q :=
  ⟨cells_of h 0 _ rfl, cells_of h 1 _ rfl, cells_of h 2 _ rfl, cells_of h 3 _ rfl, cells_of h 4 _ rfl, cells_of h 5 _ rfl, cells_of h 6 _ rfl, cells_of h 7 _ rfl, cells_of h 8 _ rfl, cells_of h 9 _ rfl, cells_of h 10 _ rfl⟩

/-- Decide at groups that requests made. -/
theorem decide_inv {w : World} {v : Value} {L : List Fk} {n : Nat} (h : FksRd w v L) (hi : Inv L n) (q : Rq) (h1 : q.group.length ≤ 200) (h2 : q.member.length ≤ 200) (parts : Int) (hE : Env w) :
    Calls Tryz.prog 14 #[v, .int .i64 parts, q.v] w (RecTo w (decideF L parts q).1 (decideF L parts q).2) := by
  obtain ⟨-, hok, -⟩ := hi.the q.group
  obtain ⟨m1, m2, m3⟩ := hok.mems
  exact decide_any h hi.ok.up (by have := hi.ok.len; omega) q (by omega) (by omega) parts ⟨m2, by omega, fun m hm => by have := m3 m hm; omega⟩ hok.gen hE
theorem apply_inv {w : World} {v : Value} {L : List Fk} {n : Nat} (h : FksRd w v L) (hi : Inv L n) (hn : n ≤ 1000) (q : Rq) (parts off : Int) (hE : Env w) :
    Calls Tryz.prog 10 #[v, .agg #[.int .i64 off, .string (bs (decideF L parts q).1), .string (bs (decideF L parts q).2), .bool false]] w (ApplyTo w (nextF L parts q)) := by
  obtain ⟨h1, h2⟩ := dec_len hi hn parts q
  have := FApply_ok h hi.ok ⟨off, (decideF L parts q).1, (decideF L parts q).2, false⟩ (by simp only; omega) (by simp only; omega) hE
  rw [step_eq hi hn] at this
  exact this
theorem FksRd.empty (w : World) (b : Nat) : FksRd w (.slice (some ⟨b, 0, none⟩) 0 0) [] := ⟨[], rfl, ⟨rfl, .inr ⟨⟨b, 0, none⟩, 0, rfl, Nat.le_refl _, Nat.zero_le _, fun j u h => by simp [fkCells] at h⟩⟩, by simp⟩
theorem Inv.mono {L : List Fk} {n m : Nat} (h : Inv L n) (hm : n ≤ m) : Inv L m := ⟨h.ok, h.names, fun y hy => by have := h.gens y hy; omega, h.offs⟩
theorem two_beq (s : List UInt8) (c : UInt8) : ((bs s).toList == [c]) = decide (s = [c]) := by rw [bs_toList]; by_cases e : s = [c] <;> simp [e]
theorem two_eq (s : List UInt8) (c : UInt8) : ((bs s).toList = [c]) = (s = [c]) := by rw [bs_toList]
end Go.Proofs.YtdchjepahgecgaaGreatDoor
namespace Go.Proofs.YtdchjepahgecgaaGreatDoor
open Go.RowKit

/-- A group in a box. -/
def GrpAt (w : World) (b : Nat) (y : Fk) (ma : Option Addr) (mc : Nat) (pa : Option Addr) (pc : Nat) : Prop :=
  w.heap[b]? = some (.cells #[.string (bs y.name), .int .i64 y.gen, .int .i64 y.parts, .slice ma y.members.length mc, .slice pa y.points.length pc] 44 (0, 0)) ∧ Strs w (.slice ma y.members.length mc) y.members ∧ PtsRd w (.slice pa y.points.length pc) y.points
theorem GrpAt.lt {w : World} {b : Nat} {y : Fk} {ma : Option Addr} {mc : Nat} {pa : Option Addr} {pc : Nat} (h : GrpAt w b y ma mc pa pc) : b < w.heap.size := (Array.getElem?_eq_some_iff.1 h.1).1
theorem GrpAt.below {w w' : World} {b : Nat} {y : Fk} {ma : Option Addr} {mc : Nat} {pa : Option Addr} {pc : Nat} (h : GrpAt w b y ma mc pa pc) (hb : Below w.heap.size w w') : GrpAt w' b y ma mc pa pc :=
  ⟨(hb.block b h.lt).trans h.1, h.2.1.below hb, h.2.2.below hb⟩
theorem GrpAt.cells {w : World} {b : Nat} {y : Fk} {ma : Option Addr} {mc : Nat} {pa : Option Addr} {pc : Nat} (h : GrpAt w b y ma mc pa pc) :
    w.cell? ⟨b, 0, none⟩ = some (.string (bs y.name)) ∧ w.cell? ⟨b, 1, none⟩ = some (.int .i64 y.gen) ∧ w.cell? ⟨b, 2, none⟩ = some (.int .i64 y.parts) ∧ w.cell? ⟨b, 3, none⟩ = some (.slice ma y.members.length mc) ∧ w.cell? ⟨b, 4, none⟩ = some (.slice pa y.points.length pc) :=
  ⟨cells_of h.1 0 _ rfl, cells_of h.1 1 _ rfl, cells_of h.1 2 _ rfl, cells_of h.1 3 _ rfl, cells_of h.1 4 _ rfl⟩
theorem GrpAt.new {w : World} {y : Fk} {ma : Option Addr} {mc : Nat} {pa : Option Addr} {pc : Nat} (h1 : Strs w (.slice ma y.members.length mc) y.members) (h2 : PtsRd w (.slice pa y.points.length pc) y.points) :
    GrpAt (w.alloc (.cells #[.string (bs y.name), .int .i64 y.gen, .int .i64 y.parts, .slice ma y.members.length mc, .slice pa y.points.length pc] 44)) w.heap.size y ma mc pa pc :=
  ⟨heap_alloc_new _ _, h1.below (below_alloc _ _), h2.below (below_alloc _ _)⟩

abbrev Rc.v (x : Rc) : Value := .agg #[.int .i64 x.off, .string (bs x.key), .string (bs x.val), .bool x.gone]
abbrev Rc.box (x : Rc) : Obj := .cells #[.int .i64 x.off, .string (bs x.key), .string (bs x.val), .bool x.gone] 28
theorem RqAt.block {w w' : World} {b : Nat} {q : Rq} (h : w.heap[b]? = some q.box) (hb : Below w.heap.size w w') : w'.heap[b]? = some q.box := (hb.block b (Array.getElem?_eq_some_iff.1 h).1).trans h
theorem box_below {w w' : World} {b : Nat} {o : Obj} (h : w.heap[b]? = some o) (hb : Below w.heap.size w w') : w'.heap[b]? = some o := (hb.block b (Array.getElem?_eq_some_iff.1 h).1).trans h
theorem box_lt {w : World} {b : Nat} {o : Obj} (h : w.heap[b]? = some o) : b < w.heap.size := (Array.getElem?_eq_some_iff.1 h).1

theorem grp2_limbs {w : World} {b b' : Nat} {y y' : Fk} {ma : Option Addr} {mc : Nat} {pa : Option Addr} {pc : Nat} {ma' : Option Addr} {mc' : Nat} {pa' : Option Addr} {pc' : Nat} (h : GrpAt w b y ma mc pa pc) (h' : GrpAt w b' y' ma' mc' pa' pc') :
    w.cell? ⟨b, 0, none⟩ = some (.string (bs y.name)) ∧ w.cell? ⟨b, 1, none⟩ = some (.int .i64 y.gen) ∧ w.cell? ⟨b, 2, none⟩ = some (.int .i64 y.parts) ∧ w.cell? ⟨b, 3, none⟩ = some (.slice ma y.members.length mc) ∧ w.cell? ⟨b, 4, none⟩ = some (.slice pa y.points.length pc) ∧
    w.cell? ⟨b', 0, none⟩ = some (.string (bs y'.name)) ∧ w.cell? ⟨b', 1, none⟩ = some (.int .i64 y'.gen) ∧ w.cell? ⟨b', 2, none⟩ = some (.int .i64 y'.parts) ∧ w.cell? ⟨b', 3, none⟩ = some (.slice ma' y'.members.length mc') ∧ w.cell? ⟨b', 4, none⟩ = some (.slice pa' y'.points.length pc') := by
  obtain ⟨h0, h1, h2, h3, h4⟩ := h.cells
  obtain ⟨g0, g1, g2, g3, g4⟩ := h'.cells
  exact ⟨h0, h1, h2, h3, h4, g0, g1, g2, g3, g4⟩
theorem answer_inv {w : World} {v : Value} {N : List Fk} {n : Nat} (h : FksRd w v N) (hi : Inv N n) {dk dv : List UInt8} (h1 : dk.length ≤ 16) (h2 : dv.length ≤ 64) {q : Rq} {R : Rs} (hR : answerP N dk dv false q = R) (hE : Env w) :
    Calls Tryz.prog 15 #[v, .agg #[.int .i64 0, .string (bs dk), .string (bs dv), .bool false], q.v] w (RespTo w R) := by
  have := answer_any h hi.ok.up (by have := hi.ok.len; omega) dk dv false 0 (by omega) (by omega) q hE
  rw [hR] at this
  exact this
abbrev Rs.box (r : Rs) (pa : Option Addr) (pc : Nat) : Obj := .cells (rsC r.client r.n r.code r.off r.gen (.slice pa r.parts.length pc)) 39
theorem resp_cells {w : World} {b : Nat} {r : Rs} {pa : Option Addr} {pc : Nat} (h : w.heap[b]? = some (r.box pa pc)) : w.cell? ⟨b, 2, none⟩ = some (.int .i64 r.code) ∧ w.cell? ⟨b, 3, none⟩ = some (.int .i64 r.off) ∧ w.cell? ⟨b, 5, none⟩ = some (.int .i64 r.gen) :=
  ⟨cells_of h 2 _ rfl, cells_of h 3 _ rfl, cells_of h 5 _ rfl⟩

/-- The partitions asked for, brought into 0 to 4. -/
theorem five_in (n : Int) : 0 ≤ wrap64 ((IntKind.u64.wrap n).tmod 5) ∧ wrap64 ((IntKind.u64.wrap n).tmod 5) ≤ 4 := by
  have h : 0 ≤ IntKind.u64.wrap n := by simp [IntKind.wrap, IntKind.bits, IntKind.signed]; omega
  have h1 := Int.tmod_nonneg 5 h
  have h2 := Int.tmod_lt_of_pos (IntKind.u64.wrap n) (by omega : (0 : Int) < 5)
  generalize (IntKind.u64.wrap n).tmod 5 = m at *
  unfold wrap64
  omega

theorem off_at {W : World} {b : Nat} {y : Fk} {ma : Option Addr} {mc : Nat} {pa : Option Addr} {pc : Nat} (h : GrpAt W b y ma mc pa pc) (p : Int) :
    Calls Tryz.prog 19 #[.agg #[.string (bs y.name), .int .i64 y.gen, .int .i64 y.parts, .slice ma y.members.length mc, .slice pa y.points.length pc], .int .i64 p] W fun e w' => e = .returned (.int .i64 (offP y.points p)) ∧ Below W.heap.size W w' :=
  off_any rfl h.2.2 p
end Go.Proofs.YtdchjepahgecgaaGreatDoor
