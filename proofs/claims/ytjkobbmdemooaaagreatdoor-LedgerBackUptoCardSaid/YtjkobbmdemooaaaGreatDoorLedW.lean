/- The walks of ledger.isNum, (*Ledger).Check. -/
import Derived.Test.YtjkobbmdemooaaaGreatDoorProg
import Derived.Test.YtjkobbmdemooaaaGreatDoorLedS
namespace Go.Proofs.YtjkobbmdemooaaaGreatDoor
open Go.RowKit

set_option maxHeartbeats 400000 in
theorem LedisNum_any (n : Int) (w : World) :
    Calls Tryz.prog 74 #[.int .i64 n] w fun e w' => e = .returned (.bool (isNumB n)) ∧ w = w' := by
  go_enter Tryz.func74, Tryz.ntmps74
  go_wp2
  all_goals go_ret
  all_goals simp [isNumB]; omega

theorem und_mapLed : Tryz.prog.underlying 107 = some (.map 3 103) := by kernel_rfl
theorem und_int : Tryz.prog.underlying 3 = some (.int .i64) := by kernel_rfl
theorem und_Slots : Tryz.prog.underlying 103 = some (.slice 69) := by kernel_rfl
theorem zero_Slots : (Tryz.prog.info? 103).bind (·.zero) = some (.slice none 0 0) := by kernel_rfl

/-- What a look into the ledger's map finds. -/
theorem LedAt.look {w : World} {v : Value} {B : Nat} {L : List (Int × List Slot)} (h : LedAt w v B L) (p : Int) :
    ∃ bp rv, v = .pointer (some ⟨bp, 0, none⟩) ∧ bp < w.heap.size ∧ w.cell? ⟨bp, 0, none⟩ = some (.map (some B)) ∧ SlotsAt w rv (rowOf L p) ∧ (rowOf L p = [] ∨ RowOk (rowOf L p)) ∧
      (∀ w', Upd (fun _ => False) w w' → (Instr.lookup 107 (.map (some B)) (.int .i64 p) false).run Tryz.prog w' = .ok rv w') := by
  obtain ⟨⟨bp, m, rfl, hne, hc, hm, hr⟩, hok, -⟩ := h
  have hB : B < w.heap.size := by obtain ⟨es, cl, hb, -⟩ := hm; exact (Array.getElem?_eq_some_iff.1 hb).1
  have key : ∀ (m : List (Int × Value)) (L : List (Int × List Slot)), MRel w m L → SlotsAt w ((mget m p).getD (.slice none 0 0)) (rowOf L p) := by
    intro m
    induction m with
    | nil => intro L h; cases L with
      | nil => exact ⟨rfl, .inl ⟨rfl, rfl⟩⟩
      | cons x L => exact h.elim
    | cons y m ih => intro L h; cases L with
      | nil => exact h.elim
      | cons x L =>
        obtain ⟨h1, h2, h3⟩ := h
        by_cases e : x.1 = p
        · have e' : y.1 = p := by omega
          simpa [mget, rowOf, e, e'] using h2
        · have e1 : (x.1 == p) = false := by simpa using e
          have e2 : (y.1 == p) = false := by simp; omega
          have := ih L h3
          simpa [mget, rowOf, e1, e2] using this
  have hmk : ∀ w', Upd (fun _ => False) w w' → MapIs w' B m := by
    intro w' hu
    obtain ⟨es, cl, hb, he⟩ := hm
    exact ⟨es, cl, (hu.block B hB (fun h => h)).trans hb, he⟩
  refine ⟨bp, _, rfl, World.block_lt_of_cell? w _ hc, hc, key m L hr, ?_, ?_⟩
  · unfold rowOf
    cases hf : L.find? (fun x => x.1 == p) with
    | none => exact .inl rfl
    | some x => exact .inr (hok x (List.mem_of_find?_eq_some hf)).1
  · intro w' hu
    exact run_lookup_ints und_mapLed und_int zero_Slots (hmk _ hu) p false

theorem RowOk.seq {l : List Slot} (h : RowOk l) : ∀ i (hi : i < l.length), l[i].seq = (l[0]'(by omega)).seq + i := by
  intro i
  induction i with
  | zero => intro hi; simp
  | succ i ih =>
    intro hi
    have h1 := ih (by omega)
    have h2 := ((h.2.2 i (by omega)).2.2.2.2 hi).1
    omega

theorem checkS_row {l : List Slot} {p s : Int} (hp : isNumB p = true) (hs : isNumB s = true) (h : 0 < l.length) :
    checkS l p s = if s < l[0].seq then (Slot.zero, (21 : Int)) else if s < l[0].seq + l.length then (l.getD (s - l[0].seq).toNat Slot.zero, 13) else (Slot.zero, if s = l[0].seq + l.length then 0 else 20) := by
  cases l with
  | nil => simp at h
  | cons x l => simp [checkS, hp, hs]

set_option maxHeartbeats 1000000 in
theorem LedCheck_any {w : World} {v : Value} {B : Nat} {L : List (Int × List Slot)} (h : LedAt w v B L) (p s : Int) :
    Calls Tryz.prog 37 #[v, .int .i64 p, .int .i64 s] w fun e w' =>
      e = .returned (.tuple #[(checkS (rowOf L p) p s).1.v, .int .i64 (checkS (rowOf L p) p s).2]) ∧ Below w.heap.size w w' := by
  obtain ⟨bp, rv, rfl, hbp, hc, hrow, hok, hlu⟩ := h.look p
  have hl : ∀ o, (Instr.lookup 107 (.map (some B)) (.int .i64 p) false).run Tryz.prog (w.alloc o) = .ok rv (w.alloc o) := fun o => hlu _ (upd_alloc _ _ _)
  clear h hlu
  generalize rowOf L p = row at *
  by_cases hp : isNumB p = true
  case neg =>
    have hp : isNumB p = false := by simpa using hp
    have fin : checkS row p s = (Slot.zero, 1) := by simp [checkS, hp]
    rw [fin]; clear fin
    go_enter Tryz.func37, Tryz.ntmps37
    go_wp2
    refine wp_scope_goto 0 rfl ?_
    go_wp2_with (first | (go_at_call 74; refine (LedisNum_any _ _).mono ?_; rintro e w' ⟨rfl, rfl⟩))
    simp only [Exit.inBlock, Exit.then, jump_ret]
    exact bodyPost_ret (v := .tuple #[.agg #[.int .i64 0, .int .i64 0, .int .i64 0], .int .i64 1]) (by simp [results, Tryz.results37, go_sem]) rfl ⟨rfl, (Below.refl _ _).alloc (Nat.le_refl _) _⟩
  by_cases hs : isNumB s = true
  case neg =>
    have hs : isNumB s = false := by simpa using hs
    have fin : checkS row p s = (Slot.zero, 1) := by simp [checkS, hs]
    rw [fin]; clear fin
    go_enter Tryz.func37, Tryz.ntmps37
    go_wp2
    refine wp_scope_goto 0 rfl ?_
    go_wp2_with (first | (go_at_call 74; refine (LedisNum_any _ _).mono ?_; rintro e w' ⟨rfl, rfl⟩))
    simp only [Exit.inBlock, Exit.then, jump_ret]
    exact bodyPost_ret (v := .tuple #[.agg #[.int .i64 0, .int .i64 0, .int .i64 0], .int .i64 1]) (by simp [results, Tryz.results37, go_sem]) rfl ⟨rfl, (Below.refl _ _).alloc (Nat.le_refl _) _⟩
  have hp : isNumB p = true := hp
  rcases hok with rfl | hok
  · have hx : checkS [] p s = (Slot.zero, if s = 0 then 0 else 20) := by simp [checkS, hp, hs]
    rw [hx]; clear hx
    obtain ⟨a, cap, rfl, -⟩ := hrow.shape
    by_cases h0 : s = 0
    all_goals
      have h0' : decide (s = 0) = decide (s = 0) := rfl
      go_enter Tryz.func37, Tryz.ntmps37
      go_wp2
      refine wp_scope_goto 0 rfl ?_
      go_wp2_with (first | (go_at_call 74; refine (LedisNum_any _ _).mono ?_; rintro e w' ⟨rfl, rfl⟩))
      apply wp_goto
      repeat (first | simp only [Exit.inBlock, Exit.then, jump_goto] | go_big_open)
      go_wp2
      rw [Exit.noGoto_ret]
      first
        | exact bodyPost_ret (v := .tuple #[.agg #[.int .i64 0, .int .i64 0, .int .i64 0], .int .i64 0]) (by simp [results, Tryz.results37, go_sem]) rfl ⟨by rw [if_pos h0]; rfl, (Below.refl _ _).alloc (Nat.le_refl _) _⟩
        | exact bodyPost_ret (v := .tuple #[.agg #[.int .i64 0, .int .i64 0, .int .i64 0], .int .i64 20]) (by simp [results, Tryz.results37, go_sem]) rfl ⟨by rw [if_neg h0]; rfl, (Below.refl _ _).alloc (Nat.le_refl _) _⟩
  · have hn : 0 < row.length := List.length_pos_iff.2 hok.1
    have hn5 := hok.2.1
    obtain ⟨b, off, cap, rfl, hcap, hmx, hb, hcells⟩ := hrow.at hn
    have hseq := hok.seq
    have hfirst := hok.2.2 0 hn
    have hlast := hseq (row.length - 1) (by omega)
    have hx := checkS_row hp hs hn
    have hq := hfirst.1
    have h0 := hcells 0 _ (rowCells_get row 0 hn).1
    have h1 := hcells ((row.length - 1) * 3) _ (rowCells_get row (row.length - 1) (by omega)).1
    have hj : ∀ j (h : j < row.length), w.cell? ⟨b, off + j * 3, none⟩ = some (.int .i64 row[j].seq) ∧ w.cell? ⟨b, off + j * 3 + 1, none⟩ = some (.int .i64 row[j].base) ∧ w.cell? ⟨b, off + j * 3 + 2, none⟩ = some (.int .i64 row[j].fin) :=
      fun j h => ⟨hcells _ _ (rowCells_get row j h).1, hcells (j * 3 + 1) _ (rowCells_get row j h).2.1, hcells (j * 3 + 2) _ (rowCells_get row j h).2.2⟩
    rw [hlast] at h1
    simp only [Nat.add_zero] at h0
    clear hseq hfirst hlast hcells hrow hok
    generalize row[0].seq = q at *
    have hp1 : 0 ≤ s ∧ s ≤ 1099511627776 := by simpa [isNumB] using hs
    have hq1 : 0 ≤ q ∧ q ≤ 1099511627776 := by simpa [isNumB] using hq
    clear hq
    obtain ⟨hp1, hp2⟩ := hp1
    obtain ⟨hq1, hq2⟩ := hq1
    have hn' : ((row.length : Int) == 0) = false := by rw [beq_eq_false_iff_ne]; omega
    have hcast : ((row.length - 1 : Nat) : Int) = (row.length : Int) - 1 := by omega
    rw [hcast] at h1
    clear hcast
    by_cases c1 : s < q
    · rw [hx, if_pos c1]; clear hx hj
      go_enter Tryz.func37, Tryz.ntmps37
      go_wp2
      refine wp_scope_goto 0 rfl ?_
      go_wp2_with (first | (go_at_call 74; refine (LedisNum_any _ _).mono ?_; rintro e w' ⟨rfl, rfl⟩))
      simp only [Exit.inBlock, Exit.then, jump_ret]
      exact bodyPost_ret (v := .tuple #[.agg #[.int .i64 0, .int .i64 0, .int .i64 0], .int .i64 21]) (by simp [results, Tryz.results37, go_sem]) rfl ⟨rfl, (Below.refl _ _).alloc (Nat.le_refl _) _⟩
    by_cases c2 : s < q + row.length
    · rw [hx, if_neg c1, if_pos c2]; clear hx
      have hlt : (s - q).toNat < row.length := by clear hmx hcap; omega
      obtain ⟨g0, g1, g2⟩ := hj (s - q).toNat hlt
      have hxx : row.getD (s - q).toNat Slot.zero = row[(s - q).toNat] := by simp [List.getD, hlt]
      rw [hxx]
      generalize row[(s - q).toNat] = x at *
      clear hj hxx hlt
      go_enter Tryz.func37, Tryz.ntmps37
      go_wp2
      refine wp_scope_goto 0 rfl ?_
      go_wp2_with (first | (go_at_call 74; refine (LedisNum_any _ _).mono ?_; rintro e w' ⟨rfl, rfl⟩))
      simp only [Exit.inBlock, Exit.then, jump_ret]
      exact bodyPost_ret (v := .tuple #[.agg #[.int .i64 x.seq, .int .i64 x.base, .int .i64 x.fin], .int .i64 13]) (by simp [results, Tryz.results37, go_sem]) rfl ⟨rfl, (Below.refl _ _).alloc (Nat.le_refl _) _⟩
    · rw [hx, if_neg c1, if_neg c2]; clear hx hj
      by_cases c3 : s = q + row.length
      · rw [if_pos c3]
        subst c3
        go_enter Tryz.func37, Tryz.ntmps37
        go_wp2
        refine wp_scope_goto 0 rfl ?_
        go_wp2_with (first | (go_at_call 74; refine (LedisNum_any _ _).mono ?_; rintro e w' ⟨rfl, rfl⟩))
        go_step3
        go_wp2
        simp only [Exit.inBlock, Exit.then, jump_ret]
        exact bodyPost_ret (v := .tuple #[.agg #[.int .i64 0, .int .i64 0, .int .i64 0], .int .i64 0]) (by simp [results, Tryz.results37, go_sem]) rfl ⟨rfl, (Below.refl _ _).alloc (Nat.le_refl _) _⟩
      · rw [if_neg c3]
        go_enter Tryz.func37, Tryz.ntmps37
        go_wp2
        refine wp_scope_goto 0 rfl ?_
        go_wp2_with (first | (go_at_call 74; refine (LedisNum_any _ _).mono ?_; rintro e w' ⟨rfl, rfl⟩))
        go_step3
        go_wp2
        simp only [Exit.inBlock, Exit.then, jump_ret]
        exact bodyPost_ret (v := .tuple #[.agg #[.int .i64 0, .int .i64 0, .int .i64 0], .int .i64 20]) (by simp [results, Tryz.results37, go_sem]) rfl ⟨rfl, (Below.refl _ _).alloc (Nat.le_refl _) _⟩
end Go.Proofs.YtjkobbmdemooaaaGreatDoor
