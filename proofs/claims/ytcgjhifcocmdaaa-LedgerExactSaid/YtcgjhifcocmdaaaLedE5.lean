/- The walk of the reference's Copy: a table in new memory. -/
import Derived.Test.YtcgjhifcocmdaaaLedE1
namespace Go.Proofs.Ytcgjhifcocmdaaa
open Go.RowKit

theorem owns_upd {w w' : World} {F : Nat → Prop} {base e size : Nat} {v : Value} {n : Nat} {xs : List Value} (h : w.ownsRow base e size v n xs) (hu : Upd F w w') (hF : ∀ g, v.ownBlock = some g → ¬ F g) :
    w'.ownsRow base e size v n xs := by
  refine ⟨h.1, ?_⟩
  rcases h.2 with h | ⟨g, cap, cur, rfl, h2, h3, h4⟩
  · exact .inl h
  · exact .inr ⟨g, cap, cur, rfl, h2, by rw [hu.block g (Array.getElem?_eq_some_iff.1 h3).1 (hF g rfl)]; exact h3, h4⟩

theorem owns_mono {w : World} {base base' e size : Nat} {v : Value} {n : Nat} {xs : List Value} (h : w.ownsRow base e size v n xs) (hb : base' ≤ base) : w.ownsRow base' e size v n xs := by
  refine ⟨h.1, ?_⟩
  rcases h.2 with h | ⟨g, cap, cur, rfl, h2, h3⟩
  · exact .inl h
  · exact .inr ⟨g, cap, cur, rfl, by omega, h3⟩

theorem upd_grown {w w' : World} {r : Option Nat} (h : w.grownBy w' r) : Upd (fun k => some k = r) w w' := ⟨h.os, h.tape, h.output, h.size, fun k hk hne => h.block k hk hne⟩

theorem owns_types {w : World} {b b' e e' s s' : Nat} {v v' : Value} {n n' : Nat} {xs xs' : List Value} (h : w.ownsRow b e s v n xs) (h' : w.ownsRow b' e' s' v' n' xs') (hne : e ≠ e') :
    ∀ g, v.ownBlock = some g → ¬ some g = v'.ownBlock := by
  intro g hg hx
  rcases h.2 with ⟨rfl, _⟩ | ⟨g1, cap, cur, rfl, _, h3, _⟩
  · cases hg
  · rcases h'.2 with ⟨rfl, _⟩ | ⟨g2, cap', cur', rfl, _, h3', _⟩
    · cases hx
    · simp only [Value.ownBlock, Option.some.injEq] at hg hx
      subst hg; subst hx
      rw [h3] at h3'
      simp at h3'
      exact hne h3'.2

/-- A table that the call has made: the rows lie apart. -/
structure OwnTable (w : World) (N : Nat) (v : Value) (mm : List (Int × Value)) (T : List (Int × List Slot)) : Prop where
  len : mm.length = T.length
  own : w.ownsRow N 59 2 v mm.length (seenCells mm)
  row : ∀ j (h : j < mm.length) (h' : j < T.length), mm[j].1 = T[j].1 ∧ w.ownsRow N 32 3 mm[j].2 T[j].2.length (rowCells T[j].2)
  apart : ∀ i j (hi : i < mm.length) (hj : j < mm.length), i < j → ∀ g, mm[i].2.ownBlock = some g → mm[j].2.ownBlock = some g → False

theorem MRel.of_get {w : World} : ∀ {m : List (Int × Value)} {L : List (Int × List Slot)}, m.length = L.length → (∀ j (h : j < m.length) (h' : j < L.length), m[j].1 = L[j].1 ∧ SlotsAt w m[j].2 L[j].2) → MRel w m L
  | [], [], _, _ => trivial
  | x :: m, y :: L, hl, h => ⟨(h 0 (by simp) (by simp)).1, (h 0 (by simp) (by simp)).2, MRel.of_get (by simpa using hl) (fun j h1 h2 => h (j + 1) (by simpa using h1) (by simpa using h2))⟩
  | [], _ :: _, hl, _ => by simp at hl
  | _ :: _, [], hl, _ => by simp at hl

theorem OwnTable.seens {w : World} {N : Nat} {v : Value} {mm : List (Int × Value)} {T : List (Int × List Slot)} (h : OwnTable w N v mm T) : SeensAt w v T :=
  ⟨mm, Sl.of_owns h.own, MRel.of_get h.len (fun j h1 h2 => ⟨(h.row j h1 h2).1, Sl.of_owns (h.row j h1 h2).2⟩)⟩

theorem OwnTable.below {w w' : World} {N : Nat} {v : Value} {mm : List (Int × Value)} {T : List (Int × List Slot)} (h : OwnTable w N v mm T) (hb : Below w.heap.size w w') : OwnTable w' N v mm T :=
  ⟨h.len, owns_upd h.own (Upd.of_below (F := fun _ => False) hb) (fun _ _ h => h), fun j h1 h2 => ⟨(h.row j h1 h2).1, owns_upd (h.row j h1 h2).2 (Upd.of_below (F := fun _ => False) hb) (fun _ _ h => h)⟩, h.apart⟩

theorem owns_lt {w : World} {base e size : Nat} {v : Value} {n : Nat} {xs : List Value} (h : w.ownsRow base e size v n xs) : ∀ g, v.ownBlock = some g → base ≤ g ∧ g < w.heap.size := by
  intro g hg
  rcases h.2 with ⟨rfl, _⟩ | ⟨g1, cap, cur, rfl, h2, h3, _⟩
  · cases hg
  · simp only [Value.ownBlock, Option.some.injEq] at hg
    subst hg
    exact ⟨h2, (Array.getElem?_eq_some_iff.1 h3).1⟩

/-- One row more: it lies in new memory; then the table itself has grown. -/
theorem OwnTable.snoc {w w5 w7 : World} {N : Nat} {v v' : Value} {mm : List (Int × Value)} {T : List (Int × List Slot)} (h : OwnTable w N v mm T) (hN : N ≤ w.heap.size) (hb : Below w.heap.size w w5) {p : Int} {rv : Value} {l : List Slot}
    (hr : w5.ownsRow w.heap.size 32 3 rv l.length (rowCells l)) (hu : Upd (fun k => some k = v.ownBlock) w5 w7)
    (hv : w7.ownsRow N 59 2 v' (mm.length + 1) (seenCells mm ++ [.int .i64 p, rv])) : OwnTable w7 N v' (mm ++ [(p, rv)]) (T ++ [(p, l)]) := by
  have hbU := Upd.of_below (F := fun _ => False) hb
  have hout := owns_upd h.own hbU (fun _ _ h => h)
  refine ⟨by simp [h.len], ?_, ?_, ?_⟩
  · have e : seenCells (mm ++ [(p, rv)]) = seenCells mm ++ [.int .i64 p, rv] := by simp [seenCells]
    rw [e, List.length_append]; exact hv
  · intro j h1 h2
    by_cases hj : j < mm.length
    · have hj' : j < T.length := by rw [← h.len]; exact hj
      rw [List.getElem_append_left hj, List.getElem_append_left hj']
      obtain ⟨a1, a2⟩ := h.row j hj hj'
      have a3 := owns_upd a2 hbU (fun _ _ h => h)
      exact ⟨a1, owns_upd a3 hu (owns_types a3 hout (by decide))⟩
    · have e : j = mm.length := by simp at h1; omega
      subst e
      have e2 : mm.length = T.length := h.len
      rw [List.getElem_append_right (Nat.le_refl _), List.getElem_append_right (by omega)]
      simp only [e2, Nat.sub_self, List.getElem_cons_zero]
      exact ⟨trivial, owns_mono (owns_upd hr hu (owns_types hr hout (by decide))) hN⟩
  · intro i j hi hj hij g g1 g2
    have hi' : i < mm.length := by simp at hj; omega
    rw [List.getElem_append_left hi'] at g1
    obtain ⟨-, a2⟩ := h.row i hi' (by rw [← h.len]; exact hi')
    by_cases hj' : j < mm.length
    · rw [List.getElem_append_left hj'] at g2
      exact h.apart i j hi' hj' hij g g1 g2
    · have e : j = mm.length := by simp at hj; omega
      subst e
      rw [List.getElem_append_right (Nat.le_refl _)] at g2
      simp only [Nat.sub_self, List.getElem_cons_zero] at g2
      have := owns_lt hr g g2
      have := owns_lt a2 g g1
      omega

def Copied (w : World) (T : List (Int × List Slot)) (e : Ending) (w' : World) : Prop := ∃ v mm, e = .returned v ∧ OwnTable w' w.heap.size v mm T ∧ Below w.heap.size w w'

set_option maxRecDepth 100000 in
set_option maxHeartbeats 2000000 in
theorem R6Copy_any {w : World} {v : Value} {T : List (Int × List Slot)} (h : SeensRd w v T) (hok : ∀ k (hk : k < T.length), RowOk T[k].2) (hT : T.length ≤ 100000) :
    Calls Try.prog 15 #[v] w (Copied w T) := by
  obtain ⟨a, cap, rfl, -, hC⟩ := h.cells
  have hml : (T.length : Int) ≤ 100000 := by omega
  have HC := Lib.hid (And.intro hC hok)
  clear h hC hok
  obtain ⟨i0, hi, hz0, hz1, hz2⟩ := info_parts info_Seen
  obtain ⟨i1, ki, kz0, kz1, kz2⟩ := info_parts info_Slot
  go_enter Try.func15, Try.ntmps15
  go_wp2
  go_loopg [3, 4] T.length (fun gk out i wr => ∃ (k : Nat) (mm : List (Int × Value)), k ≤ T.length ∧ gk = T.length - k ∧ i = .int .i64 k ∧ mm.length = k ∧ OwnTable wr w.heap.size out mm (T.take k) ∧ Below w.heap.size w wr)
  case atStart =>
    refine ⟨0, [], Nat.zero_le _, rfl, rfl, rfl, ⟨rfl, ?_, fun j h => absurd h (Nat.not_lt_zero j), fun i j h => absurd h (Nat.not_lt_zero i)⟩, below_alloc w _⟩
    exact World.ownsRow_made (e := 59) (size := 2) (base := w.heap.size) w #[] 0 (Nat.le_refl _) (Nat.zero_le _) rfl
  case round =>
    obtain ⟨k, mm, hk, rfl, rfl, hmk, hown, hbel⟩ := hrel
    have HX := Lib.hid (And.intro hmk hown)
    clear hmk hown
    have hsz := hbel.size
    by_cases hlt : k < T.length
    · obtain ⟨b, off, sa, sc, rfl, hb, c0, c1, hsl⟩ := HC.out.1 k hlt
      have hrk := HC.out.2 k hlt
      have hpos := List.length_pos_iff.2 hrk.1
      have hl5 := hrk.2.1
      have c0 := below_some hbel c0 hb
      have c1 := below_some hbel c1 hb
      have hslr := Rd.below hsl hbel
      have htk : T.take (k + 1) = T.take k ++ [(T[k].1, T[k].2)] := by rw [List.take_succ_eq_append_getElem hlt]
      have hbw : b < wr.heap.size := by omega
      have HT := Lib.hid htk
      clear htk hrk hsl
      have i2 : (k : Int) < (T.length : Int) := by omega
      have i3 : (0 : Int) ≤ (k : Int) := by omega
      generalize T[k].1 = p at *
      generalize T[k].2 = l at *
      obtain ⟨rb, ro, rcap, e, -, -, hrb, hrc⟩ := Rd.at hslr hpos
      simp only [Value.slice.injEq, true_and] at e
      obtain ⟨rfl, rfl⟩ := e
      have HR := Lib.hid hrc
      clear hrc hslr
      go_wp2
      have hkeep0 : ∀ w', Below w.heap.size wr w' → w'.cell? ⟨b, off + k * 2, none⟩ = some (.int .i64 p) ∧ w'.cell? ⟨b, off + k * 2 + 1, none⟩ = some (.slice (some ⟨rb, ro, none⟩) l.length sc) :=
        fun w' h => ⟨below_some h c0 hb, below_some h c1 hb⟩
      have HK0 := Lib.hid hkeep0
      have hkeep := fun w' (h : Below wr.heap.size wr w') => hkeep0 w' (h.mono hsz)
      clear hkeep0
      have HOW := Lib.hid (World.ownsRow_made (e := 32) (size := 3) (base := wr.heap.size) wr #[] 0 (Nat.le_refl _) (Nat.zero_le _) rfl)
      have HK := Lib.hid hkeep
      have hnews : ∀ w', Below wr.heap.size wr w' → ∀ j u, (rowCells l)[j]? = some u → w'.cell? ((⟨rb, ro, none⟩ : Addr).add j) = some u := by
        intro w' h j u hu
        rw [Addr.add_lit]
        exact below_some h (HR.out j u hu) hrb
      have hone : ∀ u ∈ rowCells l, u.oneCell' = true := by
        intro u hu
        simp only [rowCells, List.mem_flatMap] at hu
        obtain ⟨x, _, hx⟩ := hu
        simp only [Slot.cells, List.mem_cons, List.not_mem_nil, or_false] at hx
        rcases hx with rfl | rfl | rfl <;> rfl
      have HNW := Lib.hid (hnews _ (below_alloc wr (.cells #[] 32)))
      have HCE := Lib.hid hone
      clear hnews hone
      clear hkeep
      go_region_held3 (fun w' => w'.cell? ⟨b, off + k * 2, none⟩ = some (.int .i64 p) ∧ w'.cell? ⟨b, off + k * 2 + 1, none⟩ = some (.slice (some ⟨rb, ro, none⟩) l.length sc))
        (first | with_reducible exact HK.out _ (Below.refl _ _) | with_reducible exact HK.out _ (Below.refl _ _).drew | with_reducible exact HK.out _ (below_alloc _ _) | with_reducible exact HK.out _ (below_alloc _ _).drew | with_reducible exact HK.out _ ((Below.refl _ _).drew.alloc (Nat.le_refl _) _) | (have hg := hb5; first | with_reducible exact HK.out _ hb5 | with_reducible exact HK.out _ (hb5.alloc hb5.size _)) | (have hg := hk7; with_reducible exact hk7))
        (first
          | (refine step_append_lies _ (by rfl) _ _ _ (by rfl) wr.heap.size 32 i1 _ 3 24 und_Slots ki kz0 kz1 kz2 rfl (by omega) (.slice (some ⟨wr.heap.size, 0, none⟩) 0 0) 0 [] (by rfl) HOW.out ⟨rb, ro, none⟩ l.length sc (rowCells l) (by rfl) (rowCells_length l) HNW.out HCE.out hpos ?_ ?_ ?_ _ rfl ?_; (unfold maxLen; omega); omega; (simp only [World.size_alloc, World.size_drew]; omega); rintro g gcap w5 hown5 hgrow5 - hlt5; rw [Nat.zero_add, List.nil_append] at hown5; rw [Nat.zero_add]; have hb5 : Below wr.heap.size wr w5 := ((below_alloc wr _).drew).grown hgrow5 (by simp only [World.size_alloc, World.size_drew]; omega) (fun k e => by simp [Value.ownBlock] at e; omega))
          | (refine step_append_lies _ (by rfl) _ _ _ (by rfl) w.heap.size 59 i0 _ 2 32 und_Seens hi hz0 hz1 hz2 rfl (by omega) u3 mm.length (seenCells mm) (by rfl) ((owns_upd HX.out.2.own (Upd.of_below (F := fun _ => False) hb5) (fun _ _ h => h)).alloc _) ⟨w5.heap.size, 0, none⟩ 1 1 [.int .i64 p, .slice (some ⟨g, 0, none⟩) l.length gcap] (by rfl) (by rfl) (World.news_of_block (cs := #[.int .i64 p, .slice (some ⟨g, 0, none⟩) l.length gcap]) (t := 59) (fr := (0, 0)) (heap_alloc_new w5 _)) (by simp [Value.oneCell']) (by omega) ?_ ?_ ?_ _ rfl ?_; (have := HX.out.1; unfold maxLen; omega); (have := HX.out.1; omega); (have := hb5.size; simp only [World.size_alloc]; omega); rintro g7 gcap7 w7 hown7 hgrow7 - hlt7; have hk7 := HK0.out w7 ((((hb5.mono hsz).alloc (by have := hb5.size; omega) _).grown hgrow7 (by have := hb5.size; simp only [World.size_alloc]; omega) (fun k e => (owns_lt HX.out.2.own k e).1)))))
      have hsnoc := HX.out.2.snoc hsz hb5 hown5 ((upd_alloc _ w5 _).trans (upd_grown hgrow7)) hown7
      rw [← HT.out] at hsnoc
      have hbel7 : Below w.heap.size w w7 := ((hbel.trans (hb5.mono hsz)).alloc (by have := hb5.size; omega) _).grown hgrow7 (by have := hb5.size; simp only [World.size_alloc]; omega) (fun k e => (owns_lt HX.out.2.own k e).1)
      have HFIN := Lib.hid (And.intro hsnoc hbel7)
      clear hsnoc hbel7 hown7 hgrow7 hown5 hgrow5 hb5
      go_wp2
      go_roundg (T.length - (k + 1))
      case measure => omega
      case rel => exact ⟨k + 1, _, by omega, rfl, by go_num, by simp [HX.out.1], HFIN.out.1, HFIN.out.2⟩
    · have i2 : ¬ (k : Int) < (T.length : Int) := by omega
      have e : T.take k = T := List.take_of_length_le (by omega)
      have HE := Lib.hid e
      clear e
      go_wp2
      go_ret
      have := HX.out.2
      rw [HE.out] at this
      exact ⟨_, mm, rfl, this, hbel⟩
end Go.Proofs.Ytcgjhifcocmdaaa
