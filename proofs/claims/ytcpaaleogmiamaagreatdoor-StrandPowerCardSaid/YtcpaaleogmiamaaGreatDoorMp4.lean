/- The walks of bead's functions. -/
import Derived.Test.YtcpaaleogmiamaaGreatDoorMp3
import Derived.Test.YtcpaaleogmiamaaGreatDoorMp1
namespace Go.Proofs.YtcpaaleogmiamaaGreatDoor
open Go.RowKit

/-- A reader in memory. -/
def RdAt (w : World) (p : Nat) (st : RS) : Prop := w.heap[p]? = some (.cells #[.string (bs st.1), .bool st.2] 257 (0, 0))

theorem RdAt.cell0 {w : World} {p : Nat} {st : RS} (h : RdAt w p st) : w.cell? ⟨p, 0, none⟩ = some (.string (bs st.1)) := by rw [cell_of_row w p 0 _ _ _ h]; rfl
theorem RdAt.cell1 {w : World} {p : Nat} {st : RS} (h : RdAt w p st) : w.cell? ⟨p, 1, none⟩ = some (.bool st.2) := by rw [cell_of_row w p 1 _ _ _ h]; rfl
theorem RdAt.free {w : World} {p : Nat} {st : RS} (h : RdAt w p st) (o : Nat) : w.frozen? ⟨p, o, none⟩ = false := by simp [World.frozen?, show w.heap[p]? = _ from h]
theorem RdAt.lt {w : World} {p : Nat} {st : RS} (h : RdAt w p st) : p < w.heap.size := (Array.getElem?_eq_some_iff.1 h).1
theorem RdAt.below {w w' : World} {p : Nat} {st : RS} (h : RdAt w p st) (hb : Below w.heap.size w w') : RdAt w' p st := (hb.block p h.lt).trans h
theorem RdAt.set0 {w : World} {p : Nat} {st : RS} (h : RdAt w p st) (l : List UInt8) : RdAt (w.setCell ⟨p, 0, none⟩ (.string (bs l))) p (l, st.2) := by
  unfold RdAt at h ⊢
  rw [setCell_same h]; rfl
theorem RdAt.set1 {w : World} {p : Nat} {st : RS} (h : RdAt w p st) (b : Bool) : RdAt (w.setCell ⟨p, 1, none⟩ (.bool b)) p (st.1, b) := by
  unfold RdAt at h ⊢
  rw [setCell_same h]; rfl
theorem upd_set {w w' : World} {p : Nat} (h : Upd (fun k => k = p) w w') (o : Nat) (v : Value) : Upd (fun k => k = p) w (w'.setCell ⟨p, o, none⟩ v) := upd_setCell h rfl v

theorem ready_any {w : World} {p : Nat} {st : RS} (h : RdAt w p st) : Calls Tryz.prog 207 #[.pointer (some ⟨p, 0, none⟩)] w fun e w' => e = .returned (.bool (!st.2)) ∧ w' = w := by
  have c1 := h.cell1
  clear h
  go_enter Tryz.func207, Tryz.ntmps207
  go_wp2
  go_ret
  exact ⟨rfl, rfl⟩

theorem bInt_cases (s : List UInt8) :
    (bInt s = none ∧ (Lib.cut s [101]).2.2 = false) ∨ (bInt s = none ∧ (Lib.cut s [101]).2.2 = true ∧ Lib.hasPrefix (Lib.cut s [101]).1 [105] = false) ∨
    (bInt s = none ∧ (Lib.cut s [101]).2.2 = true ∧ Lib.hasPrefix (Lib.cut s [101]).1 [105] = true ∧ ∀ n, Lib.atoiAll (bWord s) ≠ .ok n) ∨
    (bInt s = none ∧ (Lib.cut s [101]).2.2 = true ∧ Lib.hasPrefix (Lib.cut s [101]).1 [105] = true ∧ ∃ n, Lib.atoiAll (bWord s) = .ok n ∧ Lib.itoa n ≠ bWord s) ∨
    (∃ n, bInt s = some (n, (Lib.cut s [101]).2.1) ∧ (Lib.cut s [101]).2.2 = true ∧ Lib.hasPrefix (Lib.cut s [101]).1 [105] = true ∧ Lib.atoiAll (bWord s) = .ok n ∧ Lib.itoa n = bWord s) := by
  cases h1 : (Lib.cut s [101]).2.2
  · exact .inl ⟨by simp [bInt, h1], rfl⟩
  · cases h2 : Lib.hasPrefix (Lib.cut s [101]).1 [105]
    · exact .inr (.inl ⟨by simp [bInt, h2], rfl, rfl⟩)
    · cases h3 : Lib.atoiAll (bWord s)
      · rename_i n
        by_cases h4 : Lib.itoa n = bWord s
        · exact .inr (.inr (.inr (.inr ⟨n, by simp [bInt, h1, h2, h3, h4], rfl, rfl, rfl, h4⟩)))
        · exact .inr (.inr (.inr (.inl ⟨by simp [bInt, h3, h4], rfl, rfl, n, rfl, h4⟩)))
      · exact .inr (.inr (.inl ⟨by simp [bInt, h3], rfl, rfl, fun n hn => by cases hn⟩))
      · exact .inr (.inr (.inl ⟨by simp [bInt, h3], rfl, rfl, fun n hn => by cases hn⟩))

theorem cut_le (s : List UInt8) (c : UInt8) : (Lib.cut s [c]).1.length ≤ s.length := by
  unfold Lib.cut
  split
  · simp; omega
  · simp

theorem bWord_le (s : List UInt8) : (bWord s).length ≤ s.length := Nat.le_trans (Lib.trimPrefix_le _ _) (cut_le s 101)

/-- What the calls in a reader's Int answer. -/
structure IntCalls (w : World) (s : List UInt8) : Prop where
  cut : ∀ w', Below w.heap.size w w' → Calls Tryz.prog 208 #[.string (bs s), .string ⟨#[101]⟩] w' fun e w1 => e = .returned (.tuple #[.string (bs (Lib.cut s [101]).1), .string (bs (Lib.cut s [101]).2.1), .bool (Lib.cut s [101]).2.2]) ∧ Below w.heap.size w w1
  pre : ∀ w', Calls Tryz.prog 188 #[.string (bs (Lib.cut s [101]).1), .string ⟨#[105]⟩] w' fun e w1 => e = .returned (.tuple #[.string (bs (bWord s)), .bool (Lib.hasPrefix (Lib.cut s [101]).1 [105])]) ∧ w1 = w'
  ato : ∀ w', Below w.heap.size w w' → Calls Tryz.prog 190 #[.string (bs (bWord s))] w' fun e w1 => ∃ v ev, e = .returned (.tuple #[.int .i64 v, ev]) ∧ Below w.heap.size w w1 ∧ I64 v ∧
      ((Lib.atoiAll (bWord s) = .ok v ∧ ev = .nilIface) ∨ ((∀ n, Lib.atoiAll (bWord s) ≠ .ok n) ∧ ∃ te p, ev = .iface te p))
  ito : ∀ n w', I64 n → Below w.heap.size w w' → Calls Tryz.prog 147 #[.int .i64 n] w' fun e w1 => e = .returned (.string (bs (Lib.itoa n))) ∧ Below w.heap.size w w1

theorem intCalls {w : World} {s : List UInt8} (hs : s.length ≤ 140737488355328) (hE : Env w) : IntCalls w s where
  cut w' hb := (Cut_any s 101 (by omega) w').mono fun e w1 ⟨he, h1⟩ => ⟨he, below_trans hb h1⟩
  pre w' := CutPrefix_any (Lib.cut s [101]).1 105 w'
  ato w' hb := (Atoi_any (bWord s) (by have := bWord_le s; omega) w' (hE.below hb)).mono fun e w1 ⟨v, ev, he, h1, h2, h3⟩ => ⟨v, ev, he, below_trans hb h1, h2, h3⟩
  ito n w' hn hb := (Itoa_any hn w' (hE.below hb)).mono fun e w1 ⟨he, h1⟩ => ⟨he, below_trans hb h1⟩

set_option maxHeartbeats 1000000 in
theorem BrInt_bad {w : World} {p : Nat} {st : RS} (h : RdAt w p st) (hb : st.2 = true) : Calls Tryz.prog 171 #[.pointer (some ⟨p, 0, none⟩)] w fun e w' => e = .returned (.int .i64 0) ∧ w' = w := by
  have R := Lib.hid (ready_any h)
  have HB := Lib.hid hb
  clear h hb
  go_enter Tryz.func171, Tryz.ntmps171
  go_wp2
  refine wp_scope_goto 0 rfl ?_
  go_wp2_with (first | (go_at_call 207; refine R.out.mono ?_; rintro e w1 ⟨rfl, rfl⟩; rw [HB.out]))
  simp only [jump_ret]
  exact bodyPost_ret (v := .int .i64 0) (by simp [results, Tryz.results171, go_sem]) rfl ⟨rfl, rfl⟩

set_option maxHeartbeats 2000000 in
theorem BrInt_go {w : World} {p : Nat} {s : List UInt8} (h : RdAt w p (s, false)) (hs : s.length ≤ 140737488355328) (hE : Env w) :
    Calls Tryz.prog 171 #[.pointer (some ⟨p, 0, none⟩)] w fun e w' => e = .returned (.int .i64 (rdI (s, false)).1) ∧ RdAt w' p (rdI (s, false)).2 ∧ Upd (fun k => k = p) w w' := by
  have C := Lib.hid (intCalls hs hE)
  have R := Lib.hid (ready_any h)
  have H := Lib.hid h
  have hp := h.lt
  have c0 := h.cell0
  have c1 := h.cell1
  have f0 := h.free 0
  have f1 := h.free 1
  clear hE h
  rcases bInt_cases s with ⟨hI, h1⟩ | ⟨hI, h1, h2⟩ | ⟨hI, h1, h2, h3⟩ | ⟨hI, h1, h2, n, h3, h4⟩ | ⟨n, hI, h1, h2, h3, h4⟩
  · have hr : rdI (s, false) = (0, (s, true)) := by simp [rdI, hI]
    rw [hr]
    have H1 := Lib.hid h1
    clear hr hI h1
    go_enter Tryz.func171, Tryz.ntmps171
    go_wp2
    refine wp_scope_goto 0 rfl ?_
    go_wp2_with (first
      | (go_at_call 207; refine R.out.mono ?_; rintro e w1 ⟨rfl, rfl⟩)
      | (go_at_call 208; refine (C.out.cut _ (Below.refl _ _)).mono ?_; rintro e w1 ⟨rfl, hb1⟩; rw [H1.out]; have hs1 := hb1.size; obtain ⟨hc1, hf1⟩ := bcell hb1)
      | (go_at_call 188; refine (C.out.pre _).mono ?_; rintro e w2 ⟨rfl, rfl⟩)
      | (go_at_call 190; refine (C.out.ato _ hb1).mono ?_; rintro e w3 ⟨v, ev, rfl, hb3, hv, hev⟩; have hs3 := hb3.size; obtain ⟨hc3, hf3⟩ := bcell hb3))
    apply wp_goto
    repeat (first | simp only [Exit.then, jump_goto] | go_big_open)
    go_wp2
    rw [Exit.noGoto_ret]
    exact bodyPost_ret (v := .int .i64 0) (by simp [results, Tryz.results171, go_sem]) rfl ⟨rfl, (H.out.below hb3).set1 true, upd_set (Upd.of_below hb3) 1 _⟩
  · have hr : rdI (s, false) = (0, (s, true)) := by simp [rdI, hI]
    rw [hr]
    have H1 := Lib.hid h1
    have H2 := Lib.hid h2
    clear hr hI h1 h2
    go_enter Tryz.func171, Tryz.ntmps171
    go_wp2
    refine wp_scope_goto 0 rfl ?_
    go_wp2_with (first
      | (go_at_call 207; refine R.out.mono ?_; rintro e w1 ⟨rfl, rfl⟩)
      | (go_at_call 208; refine (C.out.cut _ (Below.refl _ _)).mono ?_; rintro e w1 ⟨rfl, hb1⟩; rw [H1.out]; have hs1 := hb1.size; obtain ⟨hc1, hf1⟩ := bcell hb1)
      | (go_at_call 188; refine (C.out.pre _).mono ?_; rintro e w2 ⟨rfl, rfl⟩; rw [H2.out])
      | (go_at_call 190; refine (C.out.ato _ hb1).mono ?_; rintro e w3 ⟨v, ev, rfl, hb3, hv, hev⟩; have hs3 := hb3.size; obtain ⟨hc3, hf3⟩ := bcell hb3))
    apply wp_goto
    repeat (first | simp only [Exit.then, jump_goto] | go_big_open)
    go_wp2
    rw [Exit.noGoto_ret]
    exact bodyPost_ret (v := .int .i64 0) (by simp [results, Tryz.results171, go_sem]) rfl ⟨rfl, (H.out.below hb3).set1 true, upd_set (Upd.of_below hb3) 1 _⟩
  · have hr : rdI (s, false) = (0, (s, true)) := by simp [rdI, hI]
    rw [hr]
    have H1 := Lib.hid h1
    have H2 := Lib.hid h2
    have H3 := Lib.hid h3
    clear hr hI h1 h2 h3
    go_enter Tryz.func171, Tryz.ntmps171
    go_wp2
    refine wp_scope_goto 0 rfl ?_
    go_wp2_with (first
      | (go_at_call 207; refine R.out.mono ?_; rintro e w1 ⟨rfl, rfl⟩)
      | (go_at_call 208; refine (C.out.cut _ (Below.refl _ _)).mono ?_; rintro e w1 ⟨rfl, hb1⟩; rw [H1.out]; have hs1 := hb1.size; obtain ⟨hc1, hf1⟩ := bcell hb1)
      | (go_at_call 188; refine (C.out.pre _).mono ?_; rintro e w2 ⟨rfl, rfl⟩; rw [H2.out])
      | (go_at_call 190; refine (C.out.ato _ hb1).mono ?_; rintro e w3 ⟨v, ev, rfl, hb3, hv, hev⟩; have hs3 := hb3.size; obtain ⟨hc3, hf3⟩ := bcell hb3; obtain ⟨te, tp, rfl⟩ : ∃ te tp, ev = .iface te tp := (by rcases hev with ⟨hv', -⟩ | ⟨-, he⟩; exact absurd hv' (H3.out _); exact he)))
    apply wp_goto
    repeat (first | simp only [Exit.then, jump_goto] | go_big_open)
    go_wp2
    rw [Exit.noGoto_ret]
    exact bodyPost_ret (v := .int .i64 0) (by simp [results, Tryz.results171, go_sem]) rfl ⟨rfl, (H.out.below hb3).set1 true, upd_set (Upd.of_below hb3) 1 _⟩
  · have hr : rdI (s, false) = (0, (s, true)) := by simp [rdI, hI]
    rw [hr]
    have H1 := Lib.hid h1
    have H2 := Lib.hid h2
    have H3 := Lib.hid h3
    have h5 : ((bs (Lib.itoa n)).toList == (bs (bWord s)).toList) = false := by rw [bs_toList, bs_toList]; simpa using h4
    clear hr hI h1 h2 h3 h4
    go_enter Tryz.func171, Tryz.ntmps171
    go_wp2
    refine wp_scope_goto 0 rfl ?_
    go_wp2_with (first
      | (go_at_call 207; refine R.out.mono ?_; rintro e w1 ⟨rfl, rfl⟩)
      | (go_at_call 208; refine (C.out.cut _ (Below.refl _ _)).mono ?_; rintro e w1 ⟨rfl, hb1⟩; rw [H1.out]; have hs1 := hb1.size; obtain ⟨hc1, hf1⟩ := bcell hb1)
      | (go_at_call 188; refine (C.out.pre _).mono ?_; rintro e w2 ⟨rfl, rfl⟩; rw [H2.out])
      | (go_at_call 190; refine (C.out.ato _ hb1).mono ?_; rintro e w3 ⟨v, ev, rfl, hb3, hv, hev⟩; have hs3 := hb3.size; obtain ⟨hc3, hf3⟩ := bcell hb3; obtain ⟨rfl, rfl⟩ : v = n ∧ ev = .nilIface := (by rcases hev with ⟨hv', he⟩ | ⟨hn, -⟩; rw [H3.out] at hv'; exact ⟨(Lib.NumEnd.ok.inj hv').symm, he⟩; exact absurd H3.out (hn _)))
      | (go_at_call 147; refine (C.out.ito _ _ hv hb3).mono ?_; rintro e w4 ⟨rfl, hb4⟩; have hs4 := hb4.size; obtain ⟨hc4, hf4⟩ := bcell hb4))
    apply wp_goto
    repeat (first | simp only [Exit.then, jump_goto] | go_big_open)
    go_wp2
    rw [Exit.noGoto_ret]
    exact bodyPost_ret (v := .int .i64 0) (by simp [results, Tryz.results171, go_sem]) rfl ⟨rfl, (H.out.below hb4).set1 true, upd_set (Upd.of_below hb4) 1 _⟩
  · have hr : rdI (s, false) = (n, ((Lib.cut s [101]).2.1, false)) := by simp [rdI, hI]
    rw [hr]
    have H1 := Lib.hid h1
    have H2 := Lib.hid h2
    have H3 := Lib.hid h3
    have h5 : ((bs (Lib.itoa n)).toList == (bs (bWord s)).toList) = true := by rw [h4]; simp
    clear hr hI h1 h2 h3 h4
    go_enter Tryz.func171, Tryz.ntmps171
    go_wp2
    refine wp_scope_goto 0 rfl ?_
    go_wp2_with (first
      | (go_at_call 207; refine R.out.mono ?_; rintro e w1 ⟨rfl, rfl⟩)
      | (go_at_call 208; refine (C.out.cut _ (Below.refl _ _)).mono ?_; rintro e w1 ⟨rfl, hb1⟩; rw [H1.out]; have hs1 := hb1.size; obtain ⟨hc1, hf1⟩ := bcell hb1)
      | (go_at_call 188; refine (C.out.pre _).mono ?_; rintro e w2 ⟨rfl, rfl⟩; rw [H2.out])
      | (go_at_call 190; refine (C.out.ato _ hb1).mono ?_; rintro e w3 ⟨v, ev, rfl, hb3, hv, hev⟩; have hs3 := hb3.size; obtain ⟨hc3, hf3⟩ := bcell hb3; obtain ⟨rfl, rfl⟩ : v = n ∧ ev = .nilIface := (by rcases hev with ⟨hv', he⟩ | ⟨hn, -⟩; rw [H3.out] at hv'; exact ⟨(Lib.NumEnd.ok.inj hv').symm, he⟩; exact absurd H3.out (hn _)))
      | (go_at_call 147; refine (C.out.ito _ _ hv hb3).mono ?_; rintro e w4 ⟨rfl, hb4⟩; have hs4 := hb4.size; obtain ⟨hc4, hf4⟩ := bcell hb4))
    simp only [jump_ret]
    exact bodyPost_ret (v := .int .i64 v) (by simp [results, Tryz.results171, go_sem]) rfl ⟨rfl, (H.out.below hb4).set0 _, upd_set (Upd.of_below hb4) 0 _⟩

/-- A reader's Int, whatever state it is in. -/
theorem BrInt_any {w : World} {p : Nat} {st : RS} (h : RdAt w p st) (hs : fuel st ≤ 140737488355328) (hE : Env w) :
    Calls Tryz.prog 171 #[.pointer (some ⟨p, 0, none⟩)] w fun e w' => e = .returned (.int .i64 (rdI st).1) ∧ RdAt w' p (rdI st).2 ∧ Upd (fun k => k = p) w w' := by
  obtain ⟨s, b⟩ := st
  cases b
  · exact BrInt_go h (by simp only [fuel, Bool.false_eq_true, if_false] at hs; omega) hE
  · rw [rdI_bad rfl]
    refine (BrInt_bad h rfl).mono ?_
    rintro e w' ⟨rfl, rfl⟩
    exact ⟨rfl, h, Upd.refl _ _⟩

set_option maxHeartbeats 1000000 in
theorem BrSign_any {w : World} {p : Nat} {st : RS} (h : RdAt w p st) (c : UInt8) :
    Calls Tryz.prog 206 #[.pointer (some ⟨p, 0, none⟩), .string ⟨#[c]⟩] w fun e w' => e = .returned (.tuple #[]) ∧ RdAt w' p (rdS c st) ∧ Upd (fun k => k = p) w w' := by
  obtain ⟨s, b⟩ := st
  have R := Lib.hid (ready_any h)
  have H := Lib.hid h
  have hp := h.lt
  have c0 := h.cell0
  have c1 := h.cell1
  have f0 := h.free 0
  have f1 := h.free 1
  clear h
  cases b
  · have P := Lib.hid (fun w' => (CutPrefix_any s c w' : Calls Tryz.prog 188 #[.string (bs s), .string ⟨#[c]⟩] w' _))
    have hS : rdS c (s, false) = (Lib.trimPrefix s [c], !Lib.hasPrefix s [c]) := by
      cases s with
      | nil => rfl
      | cons a r =>
        by_cases hac : a = c
        · subst hac; simp [rdS, Lib.trimPrefix, Lib.hasPrefix]
        · have hp : Lib.hasPrefix (a :: r) [c] = false := by
            unfold Lib.hasPrefix
            have hca : (c == a) = false := by simpa using Ne.symm hac
            rw [List.isPrefixOf_cons_cons, hca]; rfl
          simp [rdS, Lib.trimPrefix, hp, hac]
    have HS := Lib.hid hS
    clear hS
    generalize Lib.trimPrefix s [c] = t at *
    generalize Lib.hasPrefix s [c] = q at *
    go_enter Tryz.func206, Tryz.ntmps206
    go_wp2_with (first
      | (go_at_call 207; refine R.out.mono ?_; rintro e w1 ⟨rfl, rfl⟩)
      | (go_at_call 188; refine (P.out _).mono ?_; rintro e w2 ⟨rfl, rfl⟩))
    go_end0
    exact ⟨rfl, by rw [HS.out]; exact (H.out.set0 t).set1 (!q), upd_set (upd_set (Upd.refl _ _) 0 _) 1 _⟩
  · go_enter Tryz.func206, Tryz.ntmps206
    go_wp2_with (first
      | (go_at_call 207; refine R.out.mono ?_; rintro e w1 ⟨rfl, rfl⟩))
    go_end0
    exact ⟨rfl, by rw [rdS_bad rfl]; exact H.out, Upd.refl _ _⟩

theorem BrOpen_any {w : World} {p : Nat} {st : RS} (h : RdAt w p st) :
    Calls Tryz.prog 170 #[.pointer (some ⟨p, 0, none⟩)] w fun e w' => e = .returned (.tuple #[]) ∧ RdAt w' p (rdS 108 st) ∧ Upd (fun k => k = p) w w' := by
  have R := Lib.hid (BrSign_any h 108)
  clear h
  go_enter Tryz.func170, Tryz.ntmps170
  go_wp2_with (first | (go_at_call 206; refine R.out.mono ?_; rintro e w1 ⟨rfl, h1, h2⟩))
  go_end0
  exact ⟨rfl, h1, h2⟩

theorem BrClose_any {w : World} {p : Nat} {st : RS} (h : RdAt w p st) :
    Calls Tryz.prog 172 #[.pointer (some ⟨p, 0, none⟩)] w fun e w' => e = .returned (.tuple #[]) ∧ RdAt w' p (rdS 101 st) ∧ Upd (fun k => k = p) w w' := by
  have R := Lib.hid (BrSign_any h 101)
  clear h
  go_enter Tryz.func172, Tryz.ntmps172
  go_wp2_with (first | (go_at_call 206; refine R.out.mono ?_; rintro e w1 ⟨rfl, h1, h2⟩))
  go_end0
  exact ⟨rfl, h1, h2⟩

theorem byte_ne (a b : UInt8) : (((a.toNat : Nat) : Int) != ((b.toNat : Nat) : Int)) = decide (¬ a = b) := by
  by_cases h : a = b
  · subst h; simp
  · have h2 : (a.toNat : Int) ≠ (b.toNat : Int) := fun e => h (byte_ext (by omega))
    simp [h, h2]

theorem BrDone_any {w : World} {p : Nat} {st : RS} (h : RdAt w p st) :
    Calls Tryz.prog 173 #[.pointer (some ⟨p, 0, none⟩)] w fun e w' => e = .returned (.int .i64 (if rdD st = true then 0 else 3)) ∧ w' = w := by
  obtain ⟨s, b⟩ := st
  have c0 := h.cell0
  have c1 := h.cell1
  clear h
  have hD : rdD (s, b) = (!b && s.isEmpty) := rfl
  rw [hD]
  cases b
  · cases s with
    | nil =>
      have e0 : (bs []).toList = [] := bs_toList []
      go_enter Tryz.func173, Tryz.ntmps173
      go_wp2
      go_ret
      exact ⟨rfl, rfl⟩
    | cons a r =>
      have e0 : ¬ (bs (a :: r)).toList = [] := by rw [bs_toList]; simp
      go_enter Tryz.func173, Tryz.ntmps173
      go_wp2
      all_goals first | (go_ret; exact ⟨rfl, rfl⟩) | (exfalso; first | exact e0 (by assumption) | simp_all)
  · go_enter Tryz.func173, Tryz.ntmps173
    go_wp2
    go_ret
    exact ⟨rfl, rfl⟩

theorem BNew_any (s : List UInt8) (w : World) :
    Calls Tryz.prog 169 #[.string (bs s)] w fun e w' => e = .returned (.pointer (some ⟨w.heap.size, 0, none⟩)) ∧ RdAt w' w.heap.size (s, false) ∧ Below w.heap.size w w' := by
  go_enter Tryz.func169, Tryz.ntmps169
  go_wp2
  go_ret
  exact ⟨rfl, by unfold RdAt; exact heap_alloc_new _ _, below_alloc _ _⟩

theorem BInt_any {n : Int} (hn : I64 n) (w : World) (hE : Env w) :
    Calls Tryz.prog 176 #[.int .i64 n] w fun e w' => e = .returned (.string (bs (encI n))) ∧ Below w.heap.size w w' := by
  have C := Lib.hid (Itoa_any hn w hE)
  have hl := Lib.itoa_length_le n hn.1 hn.2
  have k1 : ¬ 9223372036854775807 < 1 + (bs (Lib.itoa n)).size := by rw [bs_size]; omega
  have k2 : ¬ 9223372036854775807 < 1 + (bs (Lib.itoa n)).size + 1 := by rw [bs_size]; omega
  clear hn hE
  go_enter Tryz.func176, Tryz.ntmps176
  go_wp2_with (first | (go_at_call 147; refine C.out.mono ?_; rintro e w1 ⟨rfl, hb1⟩))
  go_ret
  refine ⟨?_, hb1⟩
  rw [show (⟨#[105]⟩ : ByteArray) = bs [105] from rfl, show (⟨#[101]⟩ : ByteArray) = bs [101] from rfl, bs_append, bs_append]
  rfl

/-- A slice of strings. -/
def Strs (w : World) (v : Value) (xs : List (List UInt8)) : Prop := Rd w 1 v xs.length (xs.map (fun l => Value.string (bs l)))

theorem join_flat (xs : List (List UInt8)) : Lib.join xs [] = xs.flatten := by
  cases xs with
  | nil => rfl
  | cons x r => rw [Lib.join_cons]; simp [Lib.joinTail]

theorem sJoin_any {w : World} {v : Value} {xs : List (List UInt8)} (h : Strs w v xs) (hn : xs.length ≤ 140737488355328) (hl : xs.flatten.length ≤ 140737488355328) :
    Calls Tryz.prog 212 #[v, .string ⟨#[]⟩] w fun e w' => e = .returned (.string (bs xs.flatten)) ∧ Below w.heap.size w w' := by
  obtain ⟨-, ⟨rfl, h0⟩ | ⟨a, cap, rfl, hc, hm, hcell⟩⟩ := h
  · have hx : xs = [] := List.length_eq_zero_iff.1 h0
    subst hx
    refine (Any.strings_Join_none Tryz.laysJoin Tryz.joinX none 0 ⟨#[]⟩ w).mono ?_
    rintro e w' ⟨he, rfl⟩
    exact ⟨he, Below.refl _ _⟩
  · cases xs with
    | nil =>
      refine (Any.strings_Join_none Tryz.laysJoin Tryz.joinX (some a) cap ⟨#[]⟩ w).mono ?_
      rintro e w' ⟨he, rfl⟩
      exact ⟨he, Below.refl _ _⟩
    | cons x r =>
      have h1 := hcell 0 (.string (bs x)) rfl
      have hsp := cell_spot h1
      obtain ⟨blk, off, sp⟩ := a
      have hsp : sp = none := hsp
      subst hsp
      rw [Addr.add_lit] at h1
      have hj := Any.strings_Join Tryz.laysJoin Tryz.joinX blk off cap ((x :: r).map bs) ⟨#[]⟩ w (by
        intro j y hy
        rw [List.getElem?_map] at hy
        cases hx : (x :: r)[j]? with
        | none => rw [hx] at hy; cases hy
        | some z =>
          rw [hx] at hy
          simp only [Option.map_some, Option.some.injEq] at hy
          subst hy
          have := hcell j (.string (bs z)) (by rw [List.getElem?_map, hx]; rfl)
          rw [Addr.add_lit] at this
          exact this) (World.block_lt_of_cell? w _ h1) (by rw [List.length_map]; exact hn) (by rw [List.length_map]; exact hc) (by
        rw [List.map_map, show ((·.data.toList) ∘ bs) = id from funext fun l => bs_data l, List.map_id]
        show (Lib.join (x :: r) []).length ≤ _
        rw [join_flat]; exact hl)
      rw [List.map_map, show ((·.data.toList) ∘ bs) = id from funext fun l => bs_data l, List.map_id, List.length_map] at hj
      refine hj.mono ?_
      rintro e w' ⟨he, hb⟩
      refine ⟨?_, hb⟩
      rw [he]
      show Ending.returned (.string (bs (Lib.join (x :: r) []))) = _
      rw [join_flat]

theorem BList_any {w : World} {v : Value} {xs : List (List UInt8)} (h : Strs w v xs) (hn : xs.length ≤ 140737488355328) (hl : xs.flatten.length ≤ 140737488355328) :
    Calls Tryz.prog 175 #[v] w fun e w' => e = .returned (.string (bs (108 :: (xs.flatten ++ [101])))) ∧ Below w.heap.size w w' := by
  have C := Lib.hid (sJoin_any h hn hl)
  obtain ⟨a, cap, rfl⟩ : ∃ a cap, v = .slice a xs.length cap := by
    obtain ⟨-, ⟨rfl, h0⟩ | ⟨a, cap, rfl, -⟩⟩ := h
    · exact ⟨none, 0, by rw [h0]⟩
    · exact ⟨some a, cap, rfl⟩
  have k1 : ¬ 9223372036854775807 < 1 + (bs xs.flatten).size := by rw [bs_size]; omega
  have k2 : ¬ 9223372036854775807 < 1 + (bs xs.flatten).size + 1 := by rw [bs_size]; omega
  have KK := Lib.hid (rfl : 108 :: (xs.flatten ++ [101]) = [108] ++ xs.flatten ++ [101])
  clear h
  generalize xs.flatten = F at *
  go_enter Tryz.func175, Tryz.ntmps175
  go_wp2_with (first | (go_at_call 212; refine C.out.mono ?_; rintro e w1 ⟨rfl, hb1⟩))
  go_ret
  refine ⟨?_, hb1⟩
  rw [show (⟨#[108]⟩ : ByteArray) = bs [108] from rfl, show (⟨#[101]⟩ : ByteArray) = bs [101] from rfl, bs_append, bs_append]
  rfl
end Go.Proofs.YtcpaaleogmiamaaGreatDoor
