/- Plan's events: plain data, what can be, their bytes; the walks of within, isEvent and the reference's node, num, Event. -/
import Derived.Test.YtcpaaleogmiamaaGreatDoorMs4
namespace Go.Proofs.YtcpaaleogmiamaaGreatDoor
open Go.RowKit

structure Event where
  kind : Int
  node : Int
  part : Int
  n : Int
  deriving DecidableEq

def Event.v (x : Event) : Value := .agg #[.int .i64 x.kind, .int .i64 x.node, .int .i64 x.part, .int .i64 x.n]
def Event.zero : Event := ⟨0, 0, 0, 0⟩

def inB (n low high : Int) : Bool := decide (low ≤ n) && decide (n ≤ high)

/-- Whether an event can be. -/
def eventB (x : Event) : Bool :=
  if x.kind = 1 then inB x.node 1 5 && decide (x.part = 0) && inB x.n 1 1073741824
  else if x.kind = 2 then inB x.node 1 5 && decide (x.part = 0) && decide (x.n = 0)
  else if x.kind = 3 then inB x.node 1 5 && inB x.part 0 3 && inB x.n 1 1073741824
  else if x.kind = 4 then decide (x.node = 0) && decide (x.part = 0) && decide (x.n = 0)
  else if x.kind = 5 then inB x.node 1 5 && inB x.part 0 3 && decide (x.n = 0)
  else false

theorem within_any (n a b : Int) (w : World) : Calls Tryz.prog 74 #[.int .i64 n, .int .i64 a, .int .i64 b] w fun e w' => e = .returned (.bool (inB n a b)) ∧ w' = w := by
  by_cases h1 : a ≤ n
  · by_cases h2 : n ≤ b
    · have h : inB n a b = true := by simp [inB, h1, h2]
      rw [h]
      clear h
      go_enter Tryz.func74, Tryz.ntmps74
      go_wp2
      go_ret
      exact ⟨rfl, rfl⟩
    · have h : inB n a b = false := by simp [inB, h2]
      rw [h]
      clear h
      go_enter Tryz.func74, Tryz.ntmps74
      go_wp2
      go_ret
      exact ⟨rfl, rfl⟩
  · have h : inB n a b = false := by simp [inB, h1]
    rw [h]
    clear h
    go_enter Tryz.func74, Tryz.ntmps74
    go_wp2
    go_ret
    exact ⟨rfl, rfl⟩

def encE (x : Event) : List UInt8 := 108 :: (encI x.kind ++ (encI x.node ++ (encI x.part ++ (encI x.n ++ [101]))))

def rdE (st : RS) : Event × RS :=
  (⟨(rdI (rdS 108 st)).1, (rdI (rdI (rdS 108 st)).2).1, (rdI (rdI (rdI (rdS 108 st)).2).2).1, (rdI (rdI (rdI (rdI (rdS 108 st)).2).2).2).1⟩, rdS 101 (rdI (rdI (rdI (rdI (rdS 108 st)).2).2).2).2)

def decE (s : List UInt8) : Option Event := if rdD (rdE (s, false)).2 = true ∧ eventB (rdE (s, false)).1 = true then some (rdE (s, false)).1 else none

theorem inB_iff {n a b : Int} : inB n a b = true ↔ a ≤ n ∧ n ≤ b := by simp [inB]

theorem eventB_I64 {x : Event} (h : eventB x = true) : I64 x.kind ∧ I64 x.node ∧ I64 x.part ∧ I64 x.n := by
  unfold eventB at h
  unfold I64
  repeat' split at h
  all_goals simp only [Bool.and_eq_true, inB_iff, decide_eq_true_eq, Bool.false_eq_true] at h
  all_goals first | exact h.elim | (refine ⟨⟨?_, ?_⟩, ⟨?_, ?_⟩, ⟨?_, ?_⟩, ⟨?_, ?_⟩⟩ <;> omega)

theorem rdE_sound {st : RS} (h : (rdE st).2.2 = false) : st.2 = false ∧ st.1 = encE (rdE st).1 ++ (rdE st).2.1 := by
  obtain ⟨h1, e1⟩ := rdS_sound h
  obtain ⟨h2, -, e2⟩ := rdI_sound h1
  obtain ⟨h3, -, e3⟩ := rdI_sound h2
  obtain ⟨h4, -, e4⟩ := rdI_sound h3
  obtain ⟨h5, -, e5⟩ := rdI_sound h4
  obtain ⟨h6, e6⟩ := rdS_sound h5
  refine ⟨h6, ?_⟩
  rw [e6, e5, e4, e3, e2, e1]
  simp [encE, rdE]

theorem rdE_enc {x : Event} (h : I64 x.kind ∧ I64 x.node ∧ I64 x.part ∧ I64 x.n) (r : List UInt8) : rdE (encE x ++ r, false) = (x, (r, false)) := by
  obtain ⟨h1, h2, h3, h4⟩ := h
  have e : encE x ++ r = 108 :: (encI x.kind ++ (encI x.node ++ (encI x.part ++ (encI x.n ++ (101 :: r))))) := by simp [encE]
  rw [e]
  unfold rdE
  rw [rdS_enc, rdI_enc h1]
  simp only
  rw [rdI_enc h2]
  simp only
  rw [rdI_enc h3]
  simp only
  rw [rdI_enc h4]
  simp only
  rw [rdS_enc]

theorem decE_iff (s : List UInt8) (x : Event) : decE s = some x ↔ eventB x = true ∧ s = encE x := by
  constructor
  · intro h
    unfold decE at h
    split at h
    · rename_i hc
      simp only [Option.some.injEq] at h
      subst h
      refine ⟨hc.2, ?_⟩
      have hd := hc.1
      unfold rdD at hd
      simp only [Bool.and_eq_true, Bool.not_eq_true', List.isEmpty_iff] at hd
      have := (rdE_sound hd.1).2
      rw [hd.2, List.append_nil] at this
      exact this
    · cases h
  · rintro ⟨h, rfl⟩
    have he := rdE_enc (eventB_I64 h) []
    rw [List.append_nil] at he
    unfold decE
    rw [he]
    simp only
    rw [if_pos ⟨rfl, h⟩]

theorem encE_inj {x y : Event} (hx : eventB x = true) (hy : eventB y = true) (h : encE x = encE y) : x = y := by
  have a := (decE_iff (encE x) x).2 ⟨hx, rfl⟩
  have b := (decE_iff (encE x) y).2 ⟨hy, h⟩
  rw [a] at b
  exact Option.some.inj b
end Go.Proofs.YtcpaaleogmiamaaGreatDoor
