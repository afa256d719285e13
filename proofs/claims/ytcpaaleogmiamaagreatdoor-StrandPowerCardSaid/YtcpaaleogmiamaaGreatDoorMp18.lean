/- The walks of bead.Text and of a reader's Text. -/
/- Rows of elements of one size; numbers, pairs, texts in memory. -/
import Derived.Test.YtcpaaleogmiamaaGreatDoorMp10
import Derived.Test.YtcpaaleogmiamaaGreatDoorMp4
import Derived.Test.YtcpaaleogmiamaaGreatDoorMp5
namespace Go.Proofs.YtcpaaleogmiamaaGreatDoor
open Go.RowKit

theorem BText_any (t : List UInt8) (ht : t.length ≤ 1000000) (w : World) (hE : Env w) :
    Calls Tryz.prog 180 #[.string (bs t)] w fun e w' => e = .returned (.string (bs (encX t))) ∧ Below w.heap.size w w' := by
  have hI : I64 (t.length : Int) := ⟨by omega, by omega⟩
  have C := Lib.hid (Itoa_any hI w hE)
  have hl := Lib.itoa_length_le (t.length : Int) hI.1 hI.2
  have hsz : (bs t).size = t.length := bs_size t
  have k1 : ¬ 9223372036854775807 < (bs (Lib.itoa t.length)).size + 1 := by rw [bs_size]; omega
  have k2 : ¬ 9223372036854775807 < (bs (Lib.itoa t.length)).size + 1 + t.length := by rw [bs_size]; omega
  have k3 : ¬ 9223372036854775807 < (bs (Lib.itoa t.length)).size + 1 + (bs t).size := by rw [bs_size, bs_size]; omega
  clear hE hl
  go_enter Tryz.func180, Tryz.ntmps180
  go_wp2_with (first | (go_at_call 147; refine C.out.mono ?_; rintro e w1 ⟨rfl, hb1⟩))
  go_ret
  refine ⟨?_, hb1⟩
  rw [show (⟨#[58]⟩ : ByteArray) = bs [58] from rfl, bs_append, bs_append]
  simp [encX]

theorem bTxt_cases (most : Nat) (s : List UInt8) :
    (bTxt most s = none ∧ (Lib.cut s [58]).2.2 = false) ∨
    (bTxt most s = none ∧ (Lib.cut s [58]).2.2 = true ∧ ∀ n, Lib.atoiAll (Lib.cut s [58]).1 ≠ .ok n) ∨
    (bTxt most s = none ∧ (Lib.cut s [58]).2.2 = true ∧ ∃ n, Lib.atoiAll (Lib.cut s [58]).1 = .ok n ∧ Lib.itoa n ≠ (Lib.cut s [58]).1) ∨
    (bTxt most s = none ∧ (Lib.cut s [58]).2.2 = true ∧ ∃ n, Lib.atoiAll (Lib.cut s [58]).1 = .ok n ∧ Lib.itoa n = (Lib.cut s [58]).1 ∧ n < 0) ∨
    (bTxt most s = none ∧ (Lib.cut s [58]).2.2 = true ∧ ∃ n, Lib.atoiAll (Lib.cut s [58]).1 = .ok n ∧ Lib.itoa n = (Lib.cut s [58]).1 ∧ 0 ≤ n ∧ ((most : Int) < n ∨ ((Lib.cut s [58]).2.1.length : Int) < n)) ∨
    (∃ n : Nat, bTxt most s = some ((Lib.cut s [58]).2.1.take n, (Lib.cut s [58]).2.1.drop n) ∧ (Lib.cut s [58]).2.2 = true ∧ Lib.atoiAll (Lib.cut s [58]).1 = .ok (n : Int) ∧ Lib.itoa n = (Lib.cut s [58]).1 ∧ n ≤ most ∧ n ≤ (Lib.cut s [58]).2.1.length) := by
  cases h1 : (Lib.cut s [58]).2.2
  · exact .inl ⟨by simp [bTxt, h1], rfl⟩
  · cases h3 : Lib.atoiAll (Lib.cut s [58]).1
    · rename_i n
      by_cases h4 : Lib.itoa n = (Lib.cut s [58]).1
      · by_cases h5 : n < 0
        · exact .inr (.inr (.inr (.inl ⟨by unfold bTxt; rw [h1, if_pos rfl, h3]; simp only; rw [if_neg (fun h => by omega)], rfl, n, rfl, h4, h5⟩)))
        · by_cases h6 : n ≤ (most : Int) ∧ n ≤ ((Lib.cut s [58]).2.1.length : Int)
          · obtain ⟨k, rfl⟩ : ∃ k : Nat, n = k := ⟨n.toNat, by omega⟩
            exact .inr (.inr (.inr (.inr (.inr ⟨k, by unfold bTxt; rw [h1, if_pos rfl, h3]; simp only; rw [if_pos ⟨h4, by omega, h6.1, h6.2⟩]; simp, rfl, rfl, h4, by omega, by omega⟩))))
          · exact .inr (.inr (.inr (.inr (.inl ⟨by unfold bTxt; rw [h1, if_pos rfl, h3]; simp only; rw [if_neg (fun h => h6 ⟨h.2.2.1, h.2.2.2⟩)], rfl, n, rfl, h4, by omega, by omega⟩))))
      · exact .inr (.inr (.inl ⟨by unfold bTxt; rw [h1, if_pos rfl, h3]; simp only; rw [if_neg (fun h => h4 h.1)], rfl, n, rfl, h4⟩))
    · exact .inr (.inl ⟨by unfold bTxt; rw [h1, if_pos rfl, h3], rfl, fun n hn => by cases hn⟩)
    · exact .inr (.inl ⟨by unfold bTxt; rw [h1, if_pos rfl, h3], rfl, fun n hn => by cases hn⟩)

/-- What the calls in a reader's Text answer. -/
structure TxtCalls (w : World) (s : List UInt8) : Prop where
  cut : ∀ w', Below w.heap.size w w' → Calls Tryz.prog 208 #[.string (bs s), .string ⟨#[58]⟩] w' fun e w1 => e = .returned (.tuple #[.string (bs (Lib.cut s [58]).1), .string (bs (Lib.cut s [58]).2.1), .bool (Lib.cut s [58]).2.2]) ∧ Below w.heap.size w w1
  ato : ∀ w', Below w.heap.size w w' → Calls Tryz.prog 190 #[.string (bs (Lib.cut s [58]).1)] w' fun e w1 => ∃ v ev, e = .returned (.tuple #[.int .i64 v, ev]) ∧ Below w.heap.size w w1 ∧ I64 v ∧
      ((Lib.atoiAll (Lib.cut s [58]).1 = .ok v ∧ ev = .nilIface) ∨ ((∀ n, Lib.atoiAll (Lib.cut s [58]).1 ≠ .ok n) ∧ ∃ te p, ev = .iface te p))
  ito : ∀ n w', I64 n → Below w.heap.size w w' → Calls Tryz.prog 147 #[.int .i64 n] w' fun e w1 => e = .returned (.string (bs (Lib.itoa n))) ∧ Below w.heap.size w w1

theorem txtCalls {w : World} {s : List UInt8} (hs : s.length ≤ 140737488355328) (hE : Env w) : TxtCalls w s where
  cut w' hb := (Cut_any s 58 (by omega) w').mono fun e w1 ⟨he, h1⟩ => ⟨he, below_trans hb h1⟩
  ato w' hb := (Atoi_any (Lib.cut s [58]).1 (by have := cut_le s 58; omega) w' (hE.below hb)).mono fun e w1 ⟨v, ev, he, h1, h2, h3⟩ => ⟨v, ev, he, below_trans hb h1, h2, h3⟩
  ito n w' hn hb := (Itoa_any hn w' (hE.below hb)).mono fun e w1 ⟨he, h1⟩ => ⟨he, below_trans hb h1⟩

theorem cut_rest_le (s : List UInt8) (c : UInt8) : (Lib.cut s [c]).2.1.length ≤ s.length := by
  unfold Lib.cut
  split
  · simp
  · simp

set_option maxHeartbeats 2000000 in
theorem BrText_go {w : World} {p : Nat} {s : List UInt8} {most : Nat} (_hm : most ≤ 1000) (h : RdAt w p (s, false)) (hs : s.length ≤ 140737488355328) (hE : Env w) :
    Calls Tryz.prog 264 #[.pointer (some ⟨p, 0, none⟩), .int .i64 most] w fun e w' => e = .returned (.string (bs (rdT most (s, false)).1)) ∧ RdAt w' p (rdT most (s, false)).2 ∧ Upd (fun k => k = p) w w' := by
  have C := Lib.hid (txtCalls hs hE)
  have R := Lib.hid (ready_any h)
  have H := Lib.hid h
  have hp := h.lt
  have c0 := h.cell0
  have c1 := h.cell1
  have f0 := h.free 0
  have f1 := h.free 1
  have hrl := cut_rest_le s 58
  have hrs : (bs (Lib.cut s [58]).2.1).size = (Lib.cut s [58]).2.1.length := bs_size _
  clear hE h
  rcases bTxt_cases most s with ⟨hI, h1⟩ | ⟨hI, h1, h3⟩ | ⟨hI, h1, n, h3, h4⟩ | ⟨hI, h1, n, h3, h4, h6⟩ | ⟨hI, h1, n, h3, h4, h6, h7⟩ | ⟨n, hI, h1, h3, h4, h6, h7⟩
  · have hr : rdT most (s, false) = ([], (s, true)) := by simp [rdT, hI]
    rw [hr]
    have H1 := Lib.hid h1
    clear hr hI h1
    go_enter Tryz.func264, Tryz.ntmps264
    go_wp2
    refine wp_scope_goto 0 rfl ?_
    go_wp2_with (first
      | (go_at_call 207; refine R.out.mono ?_; rintro e w1 ⟨rfl, rfl⟩)
      | (go_at_call 208; refine (C.out.cut _ (Below.refl _ _)).mono ?_; rintro e w1 ⟨rfl, hb1⟩; rw [H1.out]; have hs1 := hb1.size; obtain ⟨hc1, hf1⟩ := bcell hb1)
      | (go_at_call 190; refine (C.out.ato _ hb1).mono ?_; rintro e w3 ⟨v, ev, rfl, hb3, hv, hev⟩; have hs3 := hb3.size; obtain ⟨hc3, hf3⟩ := bcell hb3; have hbz := hb3))
    apply wp_goto
    repeat (first | simp only [Exit.then, jump_goto] | go_big_open)
    go_wp2
    rw [Exit.noGoto_ret]
    exact bodyPost_ret (v := .string ⟨#[]⟩) (by simp [results, Tryz.results264, go_sem]) rfl ⟨rfl, (H.out.below hbz).set1 true, upd_set (Upd.of_below hbz) 1 _⟩
  · have hr : rdT most (s, false) = ([], (s, true)) := by simp [rdT, hI]
    rw [hr]
    have H1 := Lib.hid h1
    have H3 := Lib.hid h3
    clear hr hI h1 h3
    go_enter Tryz.func264, Tryz.ntmps264
    go_wp2
    refine wp_scope_goto 0 rfl ?_
    go_wp2_with (first
      | (go_at_call 207; refine R.out.mono ?_; rintro e w1 ⟨rfl, rfl⟩)
      | (go_at_call 208; refine (C.out.cut _ (Below.refl _ _)).mono ?_; rintro e w1 ⟨rfl, hb1⟩; rw [H1.out]; have hs1 := hb1.size; obtain ⟨hc1, hf1⟩ := bcell hb1)
      | (go_at_call 190; refine (C.out.ato _ hb1).mono ?_; rintro e w3 ⟨v, ev, rfl, hb3, hv, hev⟩; have hs3 := hb3.size; obtain ⟨hc3, hf3⟩ := bcell hb3; have hbz := hb3; obtain ⟨te, tp, rfl⟩ : ∃ te tp, ev = .iface te tp := (by rcases hev with ⟨hv', -⟩ | ⟨-, he⟩; exact absurd hv' (H3.out _); exact he)))
    apply wp_goto
    repeat (first | simp only [Exit.then, jump_goto] | go_big_open)
    go_wp2
    rw [Exit.noGoto_ret]
    exact bodyPost_ret (v := .string ⟨#[]⟩) (by simp [results, Tryz.results264, go_sem]) rfl ⟨rfl, (H.out.below hbz).set1 true, upd_set (Upd.of_below hbz) 1 _⟩
  · have hr : rdT most (s, false) = ([], (s, true)) := by simp [rdT, hI]
    rw [hr]
    have H1 := Lib.hid h1
    have H3 := Lib.hid h3
    have h5 : ((bs (Lib.itoa n)).toList == (bs (Lib.cut s [58]).1).toList) = false := by rw [bs_toList, bs_toList]; simpa using h4
    clear hr hI h1 h3 h4
    go_enter Tryz.func264, Tryz.ntmps264
    go_wp2
    refine wp_scope_goto 0 rfl ?_
    go_wp2_with (first
      | (go_at_call 207; refine R.out.mono ?_; rintro e w1 ⟨rfl, rfl⟩)
      | (go_at_call 208; refine (C.out.cut _ (Below.refl _ _)).mono ?_; rintro e w1 ⟨rfl, hb1⟩; rw [H1.out]; have hs1 := hb1.size; obtain ⟨hc1, hf1⟩ := bcell hb1)
      | (go_at_call 190; refine (C.out.ato _ hb1).mono ?_; rintro e w3 ⟨v, ev, rfl, hb3, hv, hev⟩; have hs3 := hb3.size; obtain ⟨hc3, hf3⟩ := bcell hb3; have hbz := hb3; obtain ⟨rfl, rfl⟩ : v = n ∧ ev = .nilIface := (by rcases hev with ⟨hv', he⟩ | ⟨hn, -⟩; rw [H3.out] at hv'; exact ⟨(Lib.NumEnd.ok.inj hv').symm, he⟩; exact absurd H3.out (hn _)))
      | (go_at_call 147; refine (C.out.ito _ _ hv hb3).mono ?_; rintro e w4 ⟨rfl, hb4⟩; have hs4 := hb4.size; obtain ⟨hc4, hf4⟩ := bcell hb4; have hbz := hb4))
    apply wp_goto
    repeat (first | simp only [Exit.then, jump_goto] | go_big_open)
    go_wp2
    rw [Exit.noGoto_ret]
    exact bodyPost_ret (v := .string ⟨#[]⟩) (by simp [results, Tryz.results264, go_sem]) rfl ⟨rfl, (H.out.below hbz).set1 true, upd_set (Upd.of_below hbz) 1 _⟩
  · have hr : rdT most (s, false) = ([], (s, true)) := by simp [rdT, hI]
    rw [hr]
    have H1 := Lib.hid h1
    have H3 := Lib.hid h3
    have h5 : ((bs (Lib.itoa n)).toList == (bs (Lib.cut s [58]).1).toList) = true := by rw [h4]; simp
    clear hr hI h1 h3 h4
    go_enter Tryz.func264, Tryz.ntmps264
    go_wp2
    refine wp_scope_goto 0 rfl ?_
    go_wp2_with (first
      | (go_at_call 207; refine R.out.mono ?_; rintro e w1 ⟨rfl, rfl⟩)
      | (go_at_call 208; refine (C.out.cut _ (Below.refl _ _)).mono ?_; rintro e w1 ⟨rfl, hb1⟩; rw [H1.out]; have hs1 := hb1.size; obtain ⟨hc1, hf1⟩ := bcell hb1)
      | (go_at_call 190; refine (C.out.ato _ hb1).mono ?_; rintro e w3 ⟨v, ev, rfl, hb3, hv, hev⟩; have hs3 := hb3.size; obtain ⟨hc3, hf3⟩ := bcell hb3; have hbz := hb3; obtain ⟨rfl, rfl⟩ : v = n ∧ ev = .nilIface := (by rcases hev with ⟨hv', he⟩ | ⟨hn, -⟩; rw [H3.out] at hv'; exact ⟨(Lib.NumEnd.ok.inj hv').symm, he⟩; exact absurd H3.out (hn _)))
      | (go_at_call 147; refine (C.out.ito _ _ hv hb3).mono ?_; rintro e w4 ⟨rfl, hb4⟩; have hs4 := hb4.size; obtain ⟨hc4, hf4⟩ := bcell hb4; have hbz := hb4))
    apply wp_goto
    repeat (first | simp only [Exit.then, jump_goto] | go_big_open)
    go_wp2
    rw [Exit.noGoto_ret]
    exact bodyPost_ret (v := .string ⟨#[]⟩) (by simp [results, Tryz.results264, go_sem]) rfl ⟨rfl, (H.out.below hbz).set1 true, upd_set (Upd.of_below hbz) 1 _⟩
  · have hr : rdT most (s, false) = ([], (s, true)) := by simp [rdT, hI]
    rw [hr]
    have H1 := Lib.hid h1
    have H3 := Lib.hid h3
    have h5 : ((bs (Lib.itoa n)).toList == (bs (Lib.cut s [58]).1).toList) = true := by rw [h4]; simp
    have h8 : ¬ n < 0 := by omega
    clear hr hI h1 h3 h4
    by_cases hmn : (most : Int) ≤ ((Lib.cut s [58]).2.1.length : Int)
    all_goals
      have h9 : (min (most : Int) ((Lib.cut s [58]).2.1.length : Int)) < n := by omega
      go_enter Tryz.func264, Tryz.ntmps264
      go_wp2
      refine wp_scope_goto 0 rfl ?_
      go_wp2_with (first
        | (go_at_call 207; refine R.out.mono ?_; rintro e w1 ⟨rfl, rfl⟩)
        | (go_at_call 208; refine (C.out.cut _ (Below.refl _ _)).mono ?_; rintro e w1 ⟨rfl, hb1⟩; rw [H1.out]; have hs1 := hb1.size; obtain ⟨hc1, hf1⟩ := bcell hb1)
        | (go_at_call 190; refine (C.out.ato _ hb1).mono ?_; rintro e w3 ⟨v, ev, rfl, hb3, hv, hev⟩; have hs3 := hb3.size; obtain ⟨hc3, hf3⟩ := bcell hb3; have hbz := hb3; obtain ⟨rfl, rfl⟩ : v = n ∧ ev = .nilIface := (by rcases hev with ⟨hv', he⟩ | ⟨hn, -⟩; rw [H3.out] at hv'; exact ⟨(Lib.NumEnd.ok.inj hv').symm, he⟩; exact absurd H3.out (hn _)))
        | (go_at_call 147; refine (C.out.ito _ _ hv hb3).mono ?_; rintro e w4 ⟨rfl, hb4⟩; have hs4 := hb4.size; obtain ⟨hc4, hf4⟩ := bcell hb4; have hbz := hb4))
      apply wp_goto
      repeat (first | simp only [Exit.then, jump_goto] | go_big_open)
      go_wp2
      rw [Exit.noGoto_ret]
      exact bodyPost_ret (v := .string ⟨#[]⟩) (by simp [results, Tryz.results264, go_sem]) rfl ⟨rfl, (H.out.below hbz).set1 true, upd_set (Upd.of_below hbz) 1 _⟩
  · have hr : rdT most (s, false) = ((Lib.cut s [58]).2.1.take n, ((Lib.cut s [58]).2.1.drop n, false)) := by simp [rdT, hI]
    rw [hr]
    have H1 := Lib.hid h1
    have H3 := Lib.hid h3
    have h5 : ((bs (Lib.itoa n)).toList == (bs (Lib.cut s [58]).1).toList) = true := by rw [h4]; simp
    have h8 : ¬ (n : Int) < 0 := by omega
    have h9 : ¬ (min (most : Int) ((Lib.cut s [58]).2.1.length : Int)) < (n : Int) := by omega
    clear hr hI h1 h3 h4
    go_enter Tryz.func264, Tryz.ntmps264
    go_wp2
    refine wp_scope_goto 0 rfl ?_
    go_wp2_with (first
      | (go_at_call 207; refine R.out.mono ?_; rintro e w1 ⟨rfl, rfl⟩)
      | (go_at_call 208; refine (C.out.cut _ (Below.refl _ _)).mono ?_; rintro e w1 ⟨rfl, hb1⟩; rw [H1.out]; have hs1 := hb1.size; obtain ⟨hc1, hf1⟩ := bcell hb1)
      | (go_at_call 190; refine (C.out.ato _ hb1).mono ?_; rintro e w3 ⟨v, ev, rfl, hb3, hv, hev⟩; have hs3 := hb3.size; obtain ⟨hc3, hf3⟩ := bcell hb3; have hbz := hb3; obtain ⟨rfl, rfl⟩ : v = (n : Int) ∧ ev = .nilIface := (by rcases hev with ⟨hv', he⟩ | ⟨hn, -⟩; rw [H3.out] at hv'; exact ⟨(Lib.NumEnd.ok.inj hv').symm, he⟩; exact absurd H3.out (hn _)))
      | (go_at_call 147; refine (C.out.ito _ _ hv hb3).mono ?_; rintro e w4 ⟨rfl, hb4⟩; have hs4 := hb4.size; obtain ⟨hc4, hf4⟩ := bcell hb4; have hbz := hb4))
    simp only [jump_ret]
    have e1 : (bs (Lib.cut s [58]).2.1).extract n (bs (Lib.cut s [58]).2.1).size = bs ((Lib.cut s [58]).2.1.drop n) := by
      rw [bs_extract, bs_size]
      congr 1
      exact List.take_of_length_le (by simp)
    have e2 : (bs (Lib.cut s [58]).2.1).extract 0 n = bs ((Lib.cut s [58]).2.1.take n) := by
      rw [bs_extract]
      simp
    exact bodyPost_ret (v := .string ((bs (Lib.cut s [58]).2.1).extract 0 n)) (by simp [results, Tryz.results264, go_sem]) rfl ⟨by rw [e2], by simp only [← hrs, e1]; exact (H.out.below hb4).set0 _, upd_set (Upd.of_below hb4) 0 _⟩

/-- A reader's Text, whatever state it is in. -/
theorem BrText_any {w : World} {p : Nat} {st : RS} {most : Nat} (hm : most ≤ 1000) (h : RdAt w p st) (hs : fuel st ≤ 140737488355328) (hE : Env w) :
    Calls Tryz.prog 264 #[.pointer (some ⟨p, 0, none⟩), .int .i64 most] w fun e w' => e = .returned (.string (bs (rdT most st).1)) ∧ RdAt w' p (rdT most st).2 ∧ Upd (fun k => k = p) w w' := by
  obtain ⟨s, b⟩ := st
  cases b
  · exact BrText_go hm h (by simp only [fuel, Bool.false_eq_true, if_false] at hs; omega) hE
  · rw [rdT_bad rfl]
    have R := Lib.hid (ready_any h)
    have H := Lib.hid h
    clear h
    go_enter Tryz.func264, Tryz.ntmps264
    go_wp2
    refine wp_scope_goto 0 rfl ?_
    go_wp2_with (first | (go_at_call 207; refine R.out.mono ?_; rintro e w1 ⟨rfl, rfl⟩))
    simp only [jump_ret]
    exact bodyPost_ret (v := .string ⟨#[]⟩) (by simp [results, Tryz.results264, go_sem]) rfl ⟨rfl, H.out, Upd.refl _ _⟩
end Go.Proofs.YtcpaaleogmiamaaGreatDoor
namespace Go.Proofs.YtcpaaleogmiamaaGreatDoor
open Go.RowKit

theorem fl_get {α : Type} {f : α → List Value} {sz : Nat} (hz : 0 < sz) (hf : ∀ y, (f y).length = sz) : ∀ (l : List α) (j : Nat), (l.flatMap f)[j]? = (l[j / sz]?).bind fun y => (f y)[j % sz]?
  | [], j => by simp
  | x :: l, j => by
    rw [List.flatMap_cons, List.getElem?_append]
    by_cases h : j < sz
    · rw [hf, if_pos h, Nat.div_eq_of_lt h, Nat.mod_eq_of_lt h]; rfl
    · obtain ⟨k, rfl⟩ : ∃ k, j = k + sz := ⟨j - sz, by omega⟩
      rw [hf, if_neg h, Nat.add_sub_cancel, fl_get hz hf l k, Nat.add_div_right _ hz, Nat.add_mod_right]
      rfl

theorem fl_len {α : Type} {f : α → List Value} {sz : Nat} (hf : ∀ y, (f y).length = sz) : ∀ (l : List α), (l.flatMap f).length = l.length * sz
  | [] => by simp
  | x :: l => by rw [List.flatMap_cons, List.length_append, hf, fl_len hf l, List.length_cons, Nat.add_mul]; omega

theorem fl_at {α : Type} {f : α → List Value} {sz : Nat} (hf : ∀ y, (f y).length = sz) (l : List α) (i : Nat) (hi : i < l.length) (r : Nat) (u : Value) (hr : (f l[i])[r]? = some u) : (l.flatMap f)[i * sz + r]? = some u := by
  have hrs : r < sz := by rw [← hf l[i]]; exact (List.getElem?_eq_some_iff.1 hr).1
  have hz : 0 < sz := by omega
  rw [fl_get hz hf, show (i * sz + r) / sz = i by rw [Nat.mul_comm, Nat.mul_add_div hz, Nat.div_eq_of_lt hrs, Nat.add_zero], show (i * sz + r) % sz = r by rw [Nat.mul_comm, Nat.mul_add_mod, Nat.mod_eq_of_lt hrs], List.getElem?_eq_getElem hi]
  exact hr

theorem fl_set {α : Type} {f : α → List Value} {sz : Nat} (hf : ∀ y, (f y).length = sz) : ∀ (l : List α) (k : Nat) (hk : k < l.length) (r : Nat) (_ : r < sz) (u : Value) (y : α), f y = (f l[k]).set r u → (l.flatMap f).set (k * sz + r) u = (l.set k y).flatMap f
  | [], k, hk, _, _, _, _, _ => absurd hk (Nat.not_lt_zero k)
  | x :: l, 0, _, r, hr, u, y, he => by
    simp only [List.getElem_cons_zero] at he
    rw [List.set_cons_zero, List.flatMap_cons, List.flatMap_cons, Nat.zero_mul, Nat.zero_add, List.set_append_left _ _ (by rw [hf]; exact hr), he]
  | x :: l, k + 1, hk, r, hr, u, y, he => by
    have hk' : k < l.length := by simpa using hk
    have e : (k + 1) * sz + r = sz + (k * sz + r) := by rw [Nat.add_mul]; omega
    rw [List.set_cons_succ, List.flatMap_cons, List.flatMap_cons, e, List.set_append_right _ _ (by rw [hf]; omega), hf, Nat.add_sub_cancel_left, fl_set hf l k hk' r hr u y (by simpa using he)]

theorem Upd.thenBelow {F : Nat → Prop} {a b c : World} (h : Upd F a b) (hb : Below a.heap.size b c) : Upd F a c :=
  ⟨hb.os.trans h.os, hb.tape.trans h.tape, hb.output.trans h.output, Nat.le_trans h.size hb.size, fun k hk hf => (hb.block k hk).trans (h.block k hk hf)⟩
/-! pairs of numbers -/
def ptEl (x : Int × Int) : List Value := [.int .i64 x.1, .int .i64 x.2]
theorem ptEl_len (x : Int × Int) : (ptEl x).length = 2 := rfl
def ptCells (l : List (Int × Int)) : List Value := l.flatMap ptEl
theorem ptCells_length (l : List (Int × Int)) : (ptCells l).length = l.length * 2 := fl_len ptEl_len l
theorem ptCells_get (l : List (Int × Int)) (i : Nat) (h : i < l.length) : (ptCells l)[i * 2]? = some (.int .i64 l[i].1) ∧ (ptCells l)[i * 2 + 1]? = some (.int .i64 l[i].2) :=
  ⟨fl_at ptEl_len l i h 0 _ rfl, fl_at ptEl_len l i h 1 _ rfl⟩
def PtsRd (w : World) (v : Value) (l : List (Int × Int)) : Prop := Rd w 2 v l.length (ptCells l)
theorem PtsRd.below {w w' : World} {v : Value} {l : List (Int × Int)} (h : PtsRd w v l) (hb : Below w.heap.size w w') : PtsRd w' v l := Rd.below h hb
theorem PtsRd.of_owns {w : World} {N e : Nat} {v : Value} {l : List (Int × Int)} (h : w.ownsRow N e 2 v l.length (ptCells l)) : PtsRd w v l := (Sl.of_owns h).rd
theorem PtsRd.nil (w : World) : PtsRd w (.slice none 0 0) [] := ⟨rfl, .inl ⟨rfl, rfl⟩⟩
theorem PtsRd.cells {w : World} {v : Value} {l : List (Int × Int)} (h : PtsRd w v l) : ∃ a cap, v = .slice a l.length cap ∧ l.length ≤ cap ∧ l.length ≤ maxLen ∧
    ∀ k (_ : k < l.length), ∃ b off, a = some ⟨b, off, none⟩ ∧ b < w.heap.size ∧ w.cell? ⟨b, off + k * 2, none⟩ = some (.int .i64 l[k].1) ∧ w.cell? ⟨b, off + k * 2 + 1, none⟩ = some (.int .i64 l[k].2) := by
  obtain ⟨a, cap, rfl, hc⟩ := Rd.shape h
  refine ⟨a, cap, rfl, hc, Rd.maxlen h, ?_⟩
  intro k hk
  obtain ⟨b, off, cap, e, _, _, hb, hc⟩ := Rd.at h (by omega)
  simp only [Value.slice.injEq, true_and] at e
  have := ptCells_get l k hk
  exact ⟨b, off, e.1, hb, hc _ _ this.1, hc (k * 2 + 1) _ this.2⟩

/-! texts -/
def strCells (l : List (List UInt8)) : List Value := l.map (fun x => Value.string (bs x))
theorem strCells_length (l : List (List UInt8)) : (strCells l).length = l.length * 1 := by simp [strCells]
theorem strCells_get (l : List (List UInt8)) (i : Nat) (h : i < l.length) : (strCells l)[i]? = some (.string (bs l[i])) := by simp [strCells, h]
theorem Strs.below {w w' : World} {v : Value} {l : List (List UInt8)} (h : Strs w v l) (hb : Below w.heap.size w w') : Strs w' v l := Rd.below h hb
theorem Strs.of_owns {w : World} {N e : Nat} {v : Value} {l : List (List UInt8)} (h : w.ownsRow N e 1 v l.length (strCells l)) : Strs w v l := (Sl.of_owns h).rd
theorem Strs.nil (w : World) : Strs w (.slice none 0 0) [] := ⟨rfl, .inl ⟨rfl, rfl⟩⟩
theorem Strs.cells {w : World} {v : Value} {l : List (List UInt8)} (h : Strs w v l) : ∃ a cap, v = .slice a l.length cap ∧ l.length ≤ cap ∧ l.length ≤ maxLen ∧
    ∀ k (_ : k < l.length), ∃ b off, a = some ⟨b, off, none⟩ ∧ b < w.heap.size ∧ w.cell? ⟨b, off + k, none⟩ = some (.string (bs l[k])) := by
  obtain ⟨a, cap, rfl, hc⟩ := Rd.shape h
  refine ⟨a, cap, rfl, hc, Rd.maxlen h, ?_⟩
  intro k hk
  obtain ⟨b, off, cap, e, _, _, hb, hc⟩ := Rd.at h (by omega)
  simp only [Value.slice.injEq, true_and] at e
  exact ⟨b, off, e.1, hb, hc _ _ (strCells_get l k hk)⟩

theorem und_Strings : Tryz.prog.underlying 106 = some (.slice 9) := by kernel_rfl
theorem info_String : (Tryz.prog.info? 9).map (fun i => (i.zero, i.size, i.bytes)) = some (some (.string ⟨#[]⟩), 1, 16) := by kernel_rfl
theorem strCells_one (xs : List (List UInt8)) : ∀ u ∈ strCells xs, u.oneCell' = true := by
  intro u hu
  obtain ⟨l, -, rfl⟩ := List.mem_map.1 hu
  rfl
theorem strs_of_owns {w : World} {base : Nat} {v : Value} {n : Nat} {xs : List (List UInt8)} (h : w.ownsRow base 9 1 v n (strCells xs)) (hn : n = xs.length) : Strs w v xs := by
  subst hn
  have := (Sl.of_owns h).rd
  exact this
theorem strs_made {w : World} (xs : List (List UInt8)) (hx : xs.length ≤ 1000) : (w.alloc (.cells (strCells xs).toArray 9)).ownsRow w.heap.size 9 1 (.slice (some ⟨w.heap.size, 0, none⟩) xs.length xs.length) xs.length (strCells xs) := by
  refine ⟨by simp [strCells], .inr ⟨w.heap.size, xs.length, (strCells xs).toArray, rfl, Nat.le_refl _, heap_alloc_new _ _, Nat.le_refl _, by unfold maxLen; omega, by simp [strCells], by rw [List.take_of_length_le (by simp [strCells])]⟩⟩
end Go.Proofs.YtcpaaleogmiamaaGreatDoor
