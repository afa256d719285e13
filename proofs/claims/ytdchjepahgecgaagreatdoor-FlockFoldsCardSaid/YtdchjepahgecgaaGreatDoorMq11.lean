/- The walks of bead.Text and of a reader's Text. -/
import Derived.Test.YtdchjepahgecgaaGreatDoorMq10
import Derived.Test.YtdchjepahgecgaaGreatDoorMq5
namespace Go.Proofs.YtdchjepahgecgaaGreatDoor
open Go.RowKit

theorem BText_any (t : List UInt8) (ht : t.length ≤ 1000000) (w : World) (hE : Env w) :
    Calls Tryz.prog 78 #[.string (bs t)] w fun e w' => e = .returned (.string (bs (encX t))) ∧ Below w.heap.size w w' := by
  have hI : I64 (t.length : Int) := ⟨by omega, by omega⟩
  have C := Lib.hid (Itoa_any hI w hE)
  have hl := Lib.itoa_length_le (t.length : Int) hI.1 hI.2
  have hsz : (bs t).size = t.length := bs_size t
  have k1 : ¬ 9223372036854775807 < (bs (Lib.itoa t.length)).size + 1 := by rw [bs_size]; omega
  have k2 : ¬ 9223372036854775807 < (bs (Lib.itoa t.length)).size + 1 + t.length := by rw [bs_size]; omega
  have k3 : ¬ 9223372036854775807 < (bs (Lib.itoa t.length)).size + 1 + (bs t).size := by rw [bs_size, bs_size]; omega
  clear hE hl
  go_enter Tryz.func78, Tryz.ntmps78
  go_wp2_with (first | (go_at_call 75; refine C.out.mono ?_; rintro e w1 ⟨rfl, hb1⟩))
  go_ret
  refine ⟨?_, hb1⟩
  rw [show (⟨#[58]⟩ : ByteArray) = bs [58] from rfl, bs_append, bs_append]
  simp [encX]

theorem bTxt_cases (most : Nat) (s : List UInt8) :
    (bTxt most s = none ∧ (Lib.cut s [58]).2.2 = false) ∨
    (bTxt most s = none ∧ (Lib.cut s [58]).2.2 = true ∧ ∀ n, Lib.atoiAll (Lib.cut s [58]).1 ≠ .ok n) ∨
    (bTxt most s = none ∧ (Lib.cut s [58]).2.2 = true ∧ ∃ n, Lib.atoiAll (Lib.cut s [58]).1 = .ok n ∧ Lib.itoa n ≠ (Lib.cut s [58]).1) ∨
    (bTxt most s = none ∧ (Lib.cut s [58]).2.2 = true ∧ ∃ n, Lib.atoiAll (Lib.cut s [58]).1 = .ok n ∧ Lib.itoa n = (Lib.cut s [58]).1 ∧ n < 0) ∨
    (bTxt most s = none ∧ (Lib.cut s [58]).2.2 = true ∧ ∃ n, Lib.atoiAll (Lib.cut s [58]).1 = .ok n ∧ Lib.itoa n = (Lib.cut s [58]).1 ∧ 0 ≤ n ∧ ((most : Int) < n ∨ ((Lib.cut s [58]).2.1.length : Int) < n)) ∨
    (∃ n : Nat, bTxt most s = some ((Lib.cut s [58]).2.1.take n, (Lib.cut s [58]).2.1.drop n) ∧ (Lib.cut s [58]).2.2 = true ∧ Lib.atoiAll (Lib.cut s [58]).1 = .ok (n : Int) ∧ Lib.itoa n = (Lib.cut s [58]).1 ∧ n ≤ most ∧ n ≤ (Lib.cut s [58]).2.1.length) := by
  cases h1 : (Lib.cut s [58]).2.2
  · exact .inl ⟨by simp [bTxt, h1], rfl⟩
  · cases h3 : Lib.atoiAll (Lib.cut s [58]).1
    · rename_i n
      by_cases h4 : Lib.itoa n = (Lib.cut s [58]).1
      · by_cases h5 : n < 0
        · exact .inr (.inr (.inr (.inl ⟨by unfold bTxt; rw [h1, if_pos rfl, h3]; simp only; rw [if_neg (fun h => by omega)], rfl, n, rfl, h4, h5⟩)))
        · by_cases h6 : n ≤ (most : Int) ∧ n ≤ ((Lib.cut s [58]).2.1.length : Int)
          · obtain ⟨k, rfl⟩ : ∃ k : Nat, n = k := ⟨n.toNat, by omega⟩
            exact .inr (.inr (.inr (.inr (.inr ⟨k, by unfold bTxt; rw [h1, if_pos rfl, h3]; simp only; rw [if_pos ⟨h4, by omega, h6.1, h6.2⟩]; simp, rfl, rfl, h4, by omega, by omega⟩))))
          · exact .inr (.inr (.inr (.inr (.inl ⟨by unfold bTxt; rw [h1, if_pos rfl, h3]; simp only; rw [if_neg (fun h => h6 ⟨h.2.2.1, h.2.2.2⟩)], rfl, n, rfl, h4, by omega, by omega⟩))))
      · exact .inr (.inr (.inl ⟨by unfold bTxt; rw [h1, if_pos rfl, h3]; simp only; rw [if_neg (fun h => h4 h.1)], rfl, n, rfl, h4⟩))
    · exact .inr (.inl ⟨by unfold bTxt; rw [h1, if_pos rfl, h3], rfl, fun n hn => by cases hn⟩)
    · exact .inr (.inl ⟨by unfold bTxt; rw [h1, if_pos rfl, h3], rfl, fun n hn => by cases hn⟩)

/-- What the calls in a reader's Text answer. -/
structure TxtCalls (w : World) (s : List UInt8) : Prop where
  cut : ∀ w', Below w.heap.size w w' → Calls Tryz.prog 85 #[.string (bs s), .string ⟨#[58]⟩] w' fun e w1 => e = .returned (.tuple #[.string (bs (Lib.cut s [58]).1), .string (bs (Lib.cut s [58]).2.1), .bool (Lib.cut s [58]).2.2]) ∧ Below w.heap.size w w1
  ato : ∀ w', Below w.heap.size w w' → Calls Tryz.prog 87 #[.string (bs (Lib.cut s [58]).1)] w' fun e w1 => ∃ v ev, e = .returned (.tuple #[.int .i64 v, ev]) ∧ Below w.heap.size w w1 ∧ I64 v ∧
      ((Lib.atoiAll (Lib.cut s [58]).1 = .ok v ∧ ev = .nilIface) ∨ ((∀ n, Lib.atoiAll (Lib.cut s [58]).1 ≠ .ok n) ∧ ∃ te p, ev = .iface te p))
  ito : ∀ n w', I64 n → Below w.heap.size w w' → Calls Tryz.prog 75 #[.int .i64 n] w' fun e w1 => e = .returned (.string (bs (Lib.itoa n))) ∧ Below w.heap.size w w1

theorem txtCalls {w : World} {s : List UInt8} (hs : s.length ≤ 140737488355328) (hE : Env w) : TxtCalls w s where
  cut w' hb := (Cut_any s 58 (by omega) w').mono fun e w1 ⟨he, h1⟩ => ⟨he, below_trans hb h1⟩
  ato w' hb := (Atoi_any (Lib.cut s [58]).1 (by have := cut_le s 58; omega) w' (hE.below hb)).mono fun e w1 ⟨v, ev, he, h1, h2, h3⟩ => ⟨v, ev, he, below_trans hb h1, h2, h3⟩
  ito n w' hn hb := (Itoa_any hn w' (hE.below hb)).mono fun e w1 ⟨he, h1⟩ => ⟨he, below_trans hb h1⟩

theorem cut_rest_le (s : List UInt8) (c : UInt8) : (Lib.cut s [c]).2.1.length ≤ s.length := by
  unfold Lib.cut
  split
  · simp
  · simp

set_option maxHeartbeats 2000000 in
theorem BrText_go {w : World} {p : Nat} {s : List UInt8} {most : Nat} (_hm : most ≤ 1000) (h : RdAt w p (s, false)) (hs : s.length ≤ 140737488355328) (hE : Env w) :
    Calls Tryz.prog 51 #[.pointer (some ⟨p, 0, none⟩), .int .i64 most] w fun e w' => e = .returned (.string (bs (rdT most (s, false)).1)) ∧ RdAt w' p (rdT most (s, false)).2 ∧ Upd (fun k => k = p) w w' := by
  have C := Lib.hid (txtCalls hs hE)
  have R := Lib.hid (ready_any h)
  have H := Lib.hid h
  have hp := h.lt
  have c0 := h.cell0
  have c1 := h.cell1
  have f0 := h.free 0
  have f1 := h.free 1
  have hrl := cut_rest_le s 58
  have hrs : (bs (Lib.cut s [58]).2.1).size = (Lib.cut s [58]).2.1.length := bs_size _
  clear hE h
  rcases bTxt_cases most s with ⟨hI, h1⟩ | ⟨hI, h1, h3⟩ | ⟨hI, h1, n, h3, h4⟩ | ⟨hI, h1, n, h3, h4, h6⟩ | ⟨hI, h1, n, h3, h4, h6, h7⟩ | ⟨n, hI, h1, h3, h4, h6, h7⟩
  · have hr : rdT most (s, false) = ([], (s, true)) := by simp [rdT, hI]
    rw [hr]
    have H1 := Lib.hid h1
    clear hr hI h1
    go_enter Tryz.func51, Tryz.ntmps51
    go_wp2
    refine wp_scope_goto 0 rfl ?_
    go_wp2_with (first
      | (go_at_call 84; refine R.out.mono ?_; rintro e w1 ⟨rfl, rfl⟩)
      | (go_at_call 85; refine (C.out.cut _ (Below.refl _ _)).mono ?_; rintro e w1 ⟨rfl, hb1⟩; rw [H1.out]; have hs1 := hb1.size; obtain ⟨hc1, hf1⟩ := bcell hb1)
      | (go_at_call 87; refine (C.out.ato _ hb1).mono ?_; rintro e w3 ⟨v, ev, rfl, hb3, hv, hev⟩; have hs3 := hb3.size; obtain ⟨hc3, hf3⟩ := bcell hb3; have hbz := hb3))
    apply wp_goto
    repeat (first | simp only [Exit.then, jump_goto] | go_big_open)
    go_wp2
    rw [Exit.noGoto_ret]
    exact bodyPost_ret (v := .string ⟨#[]⟩) (by simp [results, Tryz.results51, go_sem]) rfl ⟨rfl, (H.out.below hbz).set1 true, upd_set (Upd.of_below hbz) 1 _⟩
  · have hr : rdT most (s, false) = ([], (s, true)) := by simp [rdT, hI]
    rw [hr]
    have H1 := Lib.hid h1
    have H3 := Lib.hid h3
    clear hr hI h1 h3
    go_enter Tryz.func51, Tryz.ntmps51
    go_wp2
    refine wp_scope_goto 0 rfl ?_
    go_wp2_with (first
      | (go_at_call 84; refine R.out.mono ?_; rintro e w1 ⟨rfl, rfl⟩)
      | (go_at_call 85; refine (C.out.cut _ (Below.refl _ _)).mono ?_; rintro e w1 ⟨rfl, hb1⟩; rw [H1.out]; have hs1 := hb1.size; obtain ⟨hc1, hf1⟩ := bcell hb1)
      | (go_at_call 87; refine (C.out.ato _ hb1).mono ?_; rintro e w3 ⟨v, ev, rfl, hb3, hv, hev⟩; have hs3 := hb3.size; obtain ⟨hc3, hf3⟩ := bcell hb3; have hbz := hb3; obtain ⟨te, tp, rfl⟩ : ∃ te tp, ev = .iface te tp := (by rcases hev with ⟨hv', -⟩ | ⟨-, he⟩; exact absurd hv' (H3.out _); exact he)))
    apply wp_goto
    repeat (first | simp only [Exit.then, jump_goto] | go_big_open)
    go_wp2
    rw [Exit.noGoto_ret]
    exact bodyPost_ret (v := .string ⟨#[]⟩) (by simp [results, Tryz.results51, go_sem]) rfl ⟨rfl, (H.out.below hbz).set1 true, upd_set (Upd.of_below hbz) 1 _⟩
  · have hr : rdT most (s, false) = ([], (s, true)) := by simp [rdT, hI]
    rw [hr]
    have H1 := Lib.hid h1
    have H3 := Lib.hid h3
    have h5 : ((bs (Lib.itoa n)).toList == (bs (Lib.cut s [58]).1).toList) = false := by rw [bs_toList, bs_toList]; simpa using h4
    clear hr hI h1 h3 h4
    go_enter Tryz.func51, Tryz.ntmps51
    go_wp2
    refine wp_scope_goto 0 rfl ?_
    go_wp2_with (first
      | (go_at_call 84; refine R.out.mono ?_; rintro e w1 ⟨rfl, rfl⟩)
      | (go_at_call 85; refine (C.out.cut _ (Below.refl _ _)).mono ?_; rintro e w1 ⟨rfl, hb1⟩; rw [H1.out]; have hs1 := hb1.size; obtain ⟨hc1, hf1⟩ := bcell hb1)
      | (go_at_call 87; refine (C.out.ato _ hb1).mono ?_; rintro e w3 ⟨v, ev, rfl, hb3, hv, hev⟩; have hs3 := hb3.size; obtain ⟨hc3, hf3⟩ := bcell hb3; have hbz := hb3; obtain ⟨rfl, rfl⟩ : v = n ∧ ev = .nilIface := (by rcases hev with ⟨hv', he⟩ | ⟨hn, -⟩; rw [H3.out] at hv'; exact ⟨(Lib.NumEnd.ok.inj hv').symm, he⟩; exact absurd H3.out (hn _)))
      | (go_at_call 75; refine (C.out.ito _ _ hv hb3).mono ?_; rintro e w4 ⟨rfl, hb4⟩; have hs4 := hb4.size; obtain ⟨hc4, hf4⟩ := bcell hb4; have hbz := hb4))
    apply wp_goto
    repeat (first | simp only [Exit.then, jump_goto] | go_big_open)
    go_wp2
    rw [Exit.noGoto_ret]
    exact bodyPost_ret (v := .string ⟨#[]⟩) (by simp [results, Tryz.results51, go_sem]) rfl ⟨rfl, (H.out.below hbz).set1 true, upd_set (Upd.of_below hbz) 1 _⟩
  · have hr : rdT most (s, false) = ([], (s, true)) := by simp [rdT, hI]
    rw [hr]
    have H1 := Lib.hid h1
    have H3 := Lib.hid h3
    have h5 : ((bs (Lib.itoa n)).toList == (bs (Lib.cut s [58]).1).toList) = true := by rw [h4]; simp
    clear hr hI h1 h3 h4
    go_enter Tryz.func51, Tryz.ntmps51
    go_wp2
    refine wp_scope_goto 0 rfl ?_
    go_wp2_with (first
      | (go_at_call 84; refine R.out.mono ?_; rintro e w1 ⟨rfl, rfl⟩)
      | (go_at_call 85; refine (C.out.cut _ (Below.refl _ _)).mono ?_; rintro e w1 ⟨rfl, hb1⟩; rw [H1.out]; have hs1 := hb1.size; obtain ⟨hc1, hf1⟩ := bcell hb1)
      | (go_at_call 87; refine (C.out.ato _ hb1).mono ?_; rintro e w3 ⟨v, ev, rfl, hb3, hv, hev⟩; have hs3 := hb3.size; obtain ⟨hc3, hf3⟩ := bcell hb3; have hbz := hb3; obtain ⟨rfl, rfl⟩ : v = n ∧ ev = .nilIface := (by rcases hev with ⟨hv', he⟩ | ⟨hn, -⟩; rw [H3.out] at hv'; exact ⟨(Lib.NumEnd.ok.inj hv').symm, he⟩; exact absurd H3.out (hn _)))
      | (go_at_call 75; refine (C.out.ito _ _ hv hb3).mono ?_; rintro e w4 ⟨rfl, hb4⟩; have hs4 := hb4.size; obtain ⟨hc4, hf4⟩ := bcell hb4; have hbz := hb4))
    apply wp_goto
    repeat (first | simp only [Exit.then, jump_goto] | go_big_open)
    go_wp2
    rw [Exit.noGoto_ret]
    exact bodyPost_ret (v := .string ⟨#[]⟩) (by simp [results, Tryz.results51, go_sem]) rfl ⟨rfl, (H.out.below hbz).set1 true, upd_set (Upd.of_below hbz) 1 _⟩
  · have hr : rdT most (s, false) = ([], (s, true)) := by simp [rdT, hI]
    rw [hr]
    have H1 := Lib.hid h1
    have H3 := Lib.hid h3
    have h5 : ((bs (Lib.itoa n)).toList == (bs (Lib.cut s [58]).1).toList) = true := by rw [h4]; simp
    have h8 : ¬ n < 0 := by omega
    clear hr hI h1 h3 h4
    by_cases hmn : (most : Int) ≤ ((Lib.cut s [58]).2.1.length : Int)
    all_goals
      have h9 : (min (most : Int) ((Lib.cut s [58]).2.1.length : Int)) < n := by omega
      go_enter Tryz.func51, Tryz.ntmps51
      go_wp2
      refine wp_scope_goto 0 rfl ?_
      go_wp2_with (first
        | (go_at_call 84; refine R.out.mono ?_; rintro e w1 ⟨rfl, rfl⟩)
        | (go_at_call 85; refine (C.out.cut _ (Below.refl _ _)).mono ?_; rintro e w1 ⟨rfl, hb1⟩; rw [H1.out]; have hs1 := hb1.size; obtain ⟨hc1, hf1⟩ := bcell hb1)
        | (go_at_call 87; refine (C.out.ato _ hb1).mono ?_; rintro e w3 ⟨v, ev, rfl, hb3, hv, hev⟩; have hs3 := hb3.size; obtain ⟨hc3, hf3⟩ := bcell hb3; have hbz := hb3; obtain ⟨rfl, rfl⟩ : v = n ∧ ev = .nilIface := (by rcases hev with ⟨hv', he⟩ | ⟨hn, -⟩; rw [H3.out] at hv'; exact ⟨(Lib.NumEnd.ok.inj hv').symm, he⟩; exact absurd H3.out (hn _)))
        | (go_at_call 75; refine (C.out.ito _ _ hv hb3).mono ?_; rintro e w4 ⟨rfl, hb4⟩; have hs4 := hb4.size; obtain ⟨hc4, hf4⟩ := bcell hb4; have hbz := hb4))
      apply wp_goto
      repeat (first | simp only [Exit.then, jump_goto] | go_big_open)
      go_wp2
      rw [Exit.noGoto_ret]
      exact bodyPost_ret (v := .string ⟨#[]⟩) (by simp [results, Tryz.results51, go_sem]) rfl ⟨rfl, (H.out.below hbz).set1 true, upd_set (Upd.of_below hbz) 1 _⟩
  · have hr : rdT most (s, false) = ((Lib.cut s [58]).2.1.take n, ((Lib.cut s [58]).2.1.drop n, false)) := by simp [rdT, hI]
    rw [hr]
    have H1 := Lib.hid h1
    have H3 := Lib.hid h3
    have h5 : ((bs (Lib.itoa n)).toList == (bs (Lib.cut s [58]).1).toList) = true := by rw [h4]; simp
    have h8 : ¬ (n : Int) < 0 := by omega
    have h9 : ¬ (min (most : Int) ((Lib.cut s [58]).2.1.length : Int)) < (n : Int) := by omega
    clear hr hI h1 h3 h4
    go_enter Tryz.func51, Tryz.ntmps51
    go_wp2
    refine wp_scope_goto 0 rfl ?_
    go_wp2_with (first
      | (go_at_call 84; refine R.out.mono ?_; rintro e w1 ⟨rfl, rfl⟩)
      | (go_at_call 85; refine (C.out.cut _ (Below.refl _ _)).mono ?_; rintro e w1 ⟨rfl, hb1⟩; rw [H1.out]; have hs1 := hb1.size; obtain ⟨hc1, hf1⟩ := bcell hb1)
      | (go_at_call 87; refine (C.out.ato _ hb1).mono ?_; rintro e w3 ⟨v, ev, rfl, hb3, hv, hev⟩; have hs3 := hb3.size; obtain ⟨hc3, hf3⟩ := bcell hb3; have hbz := hb3; obtain ⟨rfl, rfl⟩ : v = (n : Int) ∧ ev = .nilIface := (by rcases hev with ⟨hv', he⟩ | ⟨hn, -⟩; rw [H3.out] at hv'; exact ⟨(Lib.NumEnd.ok.inj hv').symm, he⟩; exact absurd H3.out (hn _)))
      | (go_at_call 75; refine (C.out.ito _ _ hv hb3).mono ?_; rintro e w4 ⟨rfl, hb4⟩; have hs4 := hb4.size; obtain ⟨hc4, hf4⟩ := bcell hb4; have hbz := hb4))
    simp only [jump_ret]
    have e1 : (bs (Lib.cut s [58]).2.1).extract n (bs (Lib.cut s [58]).2.1).size = bs ((Lib.cut s [58]).2.1.drop n) := by
      rw [bs_extract, bs_size]
      congr 1
      exact List.take_of_length_le (by simp)
    have e2 : (bs (Lib.cut s [58]).2.1).extract 0 n = bs ((Lib.cut s [58]).2.1.take n) := by
      rw [bs_extract]
      simp
    exact bodyPost_ret (v := .string ((bs (Lib.cut s [58]).2.1).extract 0 n)) (by simp [results, Tryz.results51, go_sem]) rfl ⟨by rw [e2], by simp only [← hrs, e1]; exact (H.out.below hb4).set0 _, upd_set (Upd.of_below hb4) 0 _⟩

/-- A reader's Text, whatever state it is in. -/
theorem BrText_any {w : World} {p : Nat} {st : RS} {most : Nat} (hm : most ≤ 1000) (h : RdAt w p st) (hs : fuel st ≤ 140737488355328) (hE : Env w) :
    Calls Tryz.prog 51 #[.pointer (some ⟨p, 0, none⟩), .int .i64 most] w fun e w' => e = .returned (.string (bs (rdT most st).1)) ∧ RdAt w' p (rdT most st).2 ∧ Upd (fun k => k = p) w w' := by
  obtain ⟨s, b⟩ := st
  cases b
  · exact BrText_go hm h (by simp only [fuel, Bool.false_eq_true, if_false] at hs; omega) hE
  · rw [rdT_bad rfl]
    have R := Lib.hid (ready_any h)
    have H := Lib.hid h
    clear h
    go_enter Tryz.func51, Tryz.ntmps51
    go_wp2
    refine wp_scope_goto 0 rfl ?_
    go_wp2_with (first | (go_at_call 84; refine R.out.mono ?_; rintro e w1 ⟨rfl, rfl⟩))
    simp only [jump_ret]
    exact bodyPost_ret (v := .string ⟨#[]⟩) (by simp [results, Tryz.results51, go_sem]) rfl ⟨rfl, H.out, Upd.refl _ _⟩
end Go.Proofs.YtdchjepahgecgaaGreatDoor
