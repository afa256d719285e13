/- A master's file in plain words: what an event leaves on it, what is read again behind a loss of power. -/
import Derived.Test.YtcpaaleogmiamaaGreatDoorMh32
import Derived.Test.YtcpaaleogmiamaaGreatDoorMh33
namespace Go.Proofs.YtcpaaleogmiamaaGreatDoor
open Go.RowKit

def framesB (es : List Event) : List UInt8 := (es.map (fun x => frameB (encE x))).flatten
def foldE (p : Pl) : List Event → Option Pl
  | [] => some p
  | x :: es => if (applyP p x).2.2 = 0 then foldE (applyP p x).1 es else none

theorem foldE_snoc (x : Event) : ∀ (es : List Event) {p q : Pl}, foldE p es = some q → (applyP q x).2.2 = 0 → foldE p (es ++ [x]) = some (applyP q x).1
  | [], p, q, h, hx => by
    simp only [foldE, Option.some.injEq] at h
    subst h
    simp [foldE, hx]
  | y :: es, p, q, h, hx => by
    simp only [foldE, List.cons_append] at h ⊢
    split at h
    · rename_i h1
      rw [if_pos h1]
      exact foldE_snoc x es h hx
    · cases h
theorem framesB_cons (x : Event) (es : List Event) : framesB (x :: es) = frameB (encE x) ++ framesB es := rfl
theorem framesB_snoc (es : List Event) (x : Event) : framesB (es ++ [x]) = framesB es ++ frameB (encE x) := by simp [framesB]
theorem framesB_len : ∀ (es : List Event), es.length ≤ (framesB es).length
  | [] => Nat.le_refl _
  | x :: es => by
    have ih := framesB_len es
    rw [framesB_cons, List.length_append, frameB_len, List.length_cons]
    omega

theorem ev_of_apply {p : Pl} {x : Event} (h : (applyP p x).2.2 = 0) : eventB x = true :=
  (canB_iff.1 (applyP_yes (p := p) (x := x) (q := (applyP p x).1) (t := (applyP p x).2.1) (by rw [← h])).1).2.1

theorem loadN_frames : ∀ (es : List Event) (p P : Pl) (A B : List UInt8) (f : Nat), foldE p es = some P → (nextV ((A ++ framesB es) ++ B) (A ++ framesB es).length).2.2 ≠ 0 →
    loadN (es.length + f + 1) p (A ++ (framesB es ++ B)) A.length = (P, A.length + (framesB es).length)
  | [], p, P, A, B, f, h, hB => by
    simp only [foldE, Option.some.injEq] at h
    subst h
    simp only [framesB, List.map_nil, List.flatten_nil, List.append_nil, List.nil_append, List.length_nil, Nat.add_zero] at hB ⊢
    simp only [loadN]
    rw [if_pos hB]
  | x :: es, p, P, A, B, f, h, hB => by
    simp only [foldE] at h
    split at h
    · rename_i h1
      have he := ev_of_apply h1
      have hle := encE_len he
      have hnx : nextV (A ++ (framesB (x :: es) ++ B)) A.length = (encE x, A.length + (frameB (encE x)).length, 0) := by
        rw [framesB_cons, List.append_assoc]
        exact nextV_frame A (encE x) _ (by omega)
      have hd : decE (encE x) = some x := (decE_iff _ _).2 ⟨he, rfl⟩
      have ih := loadN_frames es (applyP p x).1 P (A ++ frameB (encE x)) B f h (by
        rw [framesB_cons] at hB
        simpa only [List.append_assoc] using hB)
      have e1 : (x :: es).length + f + 1 = (es.length + f + 1) + 1 := by simp only [List.length_cons]; omega
      have hun : ∀ (F : Nat) (s : List UInt8) (k n : Nat), nextV s k = (encE x, n, 0) → loadN (F + 1) p s k = loadN F (applyP p x).1 s n := by
        intro F s k n hs
        simp only [loadN]
        rw [hs]
        simp only [ne_eq, not_true_eq_false, if_false]
        rw [hd]
        simp only [h1, not_true_eq_false, if_false]
      rw [e1, hun _ _ _ _ hnx]
      have e2 : A ++ (framesB (x :: es) ++ B) = (A ++ frameB (encE x)) ++ (framesB es ++ B) := by rw [framesB_cons]; simp only [List.append_assoc]
      have e3 : A.length + (frameB (encE x)).length = (A ++ frameB (encE x)).length := by rw [List.length_append]
      rw [e2, e3, ih]
      simp only [Prod.mk.injEq, true_and, framesB_cons, List.length_append]
      omega
    · cases h

/-- What a tape of a master holds: the frames of its events, all safe. -/
structure Disk (t : Tp) (es : List Event) : Prop where
  down : t.down = false
  room : 65536 ≤ t.room
  files : (es = [] ∧ t.files = []) ∨ t.files = [(planN, ⟨framesB es, (framesB es).length⟩)]
/-- The same, the power is gone: some bytes more may be there, which are not safe. -/
structure Lost (t : Tp) (es : List Event) (y : List UInt8) : Prop where
  room : 65536 ≤ t.room
  armed : t.armed = 0
  files : (es = [] ∧ y = [] ∧ t.files = []) ∨ t.files = [(planN, ⟨framesB es ++ y, (framesB es).length⟩)]

theorem Disk.off {t : Tp} {es : List Event} (h : Disk t es) : Lost (offT t) es [] ∧ (offT t).down = true := by
  unfold offT
  rw [if_neg (by rw [h.down]; simp)]
  refine ⟨⟨h.room, rfl, ?_⟩, rfl⟩
  rcases h.files with ⟨h1, h2⟩ | h2
  · exact .inl ⟨h1, rfl, h2⟩
  · exact .inr (by rw [List.append_nil]; exact h2)
theorem offT_down {t : Tp} (h : t.down = true) : offT t = t := by unfold offT; rw [if_pos h]

theorem Lost.on {t t' : Tp} {es : List Event} {y : List UInt8} (h : Lost t es y) (ho : OnTo t t') : 65536 ≤ t'.room ∧ t'.armed = 0 ∧ t'.down = false ∧
    ((es = [] ∧ y = [] ∧ t'.files = []) ∨ ∃ g, g ≤ y.length ∧ t'.files = [(planN, ⟨framesB es ++ y.take g, (framesB es).length + g⟩)]) := by
  obtain ⟨h1, h2, h3, h4, h5, h6⟩ := ho
  refine ⟨by rw [h1]; exact h.room, h4.trans h.armed, h2, ?_⟩
  rcases h.files with ⟨e1, e2, e3⟩ | e3
  · rw [e3] at h6
    cases hf : t'.files with
    | nil => exact .inl ⟨e1, e2, rfl⟩
    | cons a l => rw [hf] at h6; cases h6
  · rw [e3] at h6
    right
    cases hf : t'.files with
    | nil => rw [hf] at h6; cases h6
    | cons a l =>
      rw [hf] at h6
      cases h6 with
      | cons hr hl =>
        cases hl
        obtain ⟨n1, g, hg, e⟩ := hr
        simp only [List.length_append] at hg
        refine ⟨g, by omega, ?_⟩
        obtain ⟨an, af⟩ := a
        simp only at n1 e
        subst n1 e
        simp only [onF, List.take_length_add_append]

theorem fget_one (n : List UInt8) (f : Fl) : fget [(n, f)] n = some f := by simp [fget]
theorem updF_one (n : List UInt8) (f : Fl) (u : Fl → Fl) : updF [(n, f)] n u = [(n, u f)] := by simp [updF]

/-- What is read again: the events that were safe, and perhaps the one in which the power went. -/
theorem openR_lost (x : Event) {P0 P : Pl} {t : Tp} {es : List Event} {y : List UInt8} {g : Nat} (hr : 65536 ≤ t.room) (ha : t.armed = 0) (hd : t.down = false) (hP : foldE P0 es = some P)
    (hf : (es = [] ∧ y = [] ∧ t.files = []) ∨ (g ≤ y.length ∧ t.files = [(planN, ⟨framesB es ++ y.take g, (framesB es).length + g⟩)]))
    (hy : y = [] ∨ (y = frameB (encE x) ∧ (applyP P x).2.2 = 0)) :
    ∃ t' P' es', openR t P0 = (t', P', 0) ∧ t'.life = t.life ∧ Disk t' es' ∧ foldE P0 es' = some P' ∧ es'.length ≤ es.length + 1 ∧ (P' = P ∨ (y = frameB (encE x) ∧ P' = (applyP P x).1)) := by
  have same : ∀ B, B = y.take g → (nextV ((framesB es) ++ B) (framesB es).length).2.2 ≠ 0 → loadN ((framesB es ++ B).length + 1) P0 (framesB es ++ B) 0 = (P, (framesB es).length) := by
    intro B _ hB
    have h1 := framesB_len es
    have h2 := loadN_frames es P0 P [] B ((framesB es ++ B).length - es.length) hP (by simpa using hB)
    have h3 : es.length + ((framesB es ++ B).length - es.length) + 1 = (framesB es ++ B).length + 1 := by rw [List.length_append]; omega
    rw [h3] at h2
    simpa using h2
  rcases hf with ⟨e1, e2, e3⟩ | ⟨hg, e3⟩
  · subst e1
    have hpd : planD t = [] := by unfold planD; rw [e3]; rfl
    simp only [foldE, Option.some.injEq] at hP
    subst hP
    have hl : loadN 1 P0 [] 0 = (P0, 0) := by
      simp only [loadN]
      exact if_pos (nextV_end [])
    refine ⟨t, P0, [], ?_, rfl, ⟨hd, hr, .inl ⟨rfl, e3⟩⟩, rfl, by simp, .inl rfl⟩
    unfold openR
    rw [hpd]
    simp only [List.length_nil, Nat.zero_add]
    rw [hl, if_neg (by omega)]
  · have hpd : planD t = framesB es ++ y.take g := by unfold planD; rw [e3, fget_one]
    have hfg : fget t.files planN = some ⟨framesB es ++ y.take g, (framesB es).length + g⟩ := by rw [e3]; exact fget_one _ _
    by_cases hfull : y = frameB (encE x) ∧ (applyP P x).2.2 = 0 ∧ g = y.length
    · obtain ⟨e4, h5, e5⟩ := hfull
      have hsn := foldE_snoc x es hP h5
      have htk : y.take g = y := by rw [e5, List.take_length]
      have hfr : framesB es ++ y.take g = framesB (es ++ [x]) := by rw [htk, framesB_snoc, e4]
      have hlo := loadN_frames (es ++ [x]) P0 _ [] [] ((framesB (es ++ [x])).length - (es ++ [x]).length) hsn (by simpa using nextV_end (framesB (es ++ [x])))
      have h1 := framesB_len (es ++ [x])
      have h3 : (es ++ [x]).length + ((framesB (es ++ [x])).length - (es ++ [x]).length) + 1 = (framesB (es ++ [x])).length + 1 := by omega
      rw [h3] at hlo
      simp only [List.append_nil, List.nil_append, List.length_nil, Nat.zero_add] at hlo
      refine ⟨t, (applyP P x).1, es ++ [x], ?_, rfl, ⟨hd, hr, .inr ?_⟩, hsn, by simp, .inr ⟨e4, rfl⟩⟩
      · unfold openR
        rw [hpd, hfr, hlo, if_neg (by omega)]
      · rw [e3, hfr]
        have : (framesB es).length + g = (framesB (es ++ [x])).length := by rw [← hfr, List.length_append, htk, e5]
        rw [this]
    · have hB : (nextV (framesB es ++ y.take g) (framesB es).length).2.2 ≠ 0 := by
        rcases hy with rfl | ⟨e4, h5⟩
        · simpa using nextV_end (framesB es)
        · have hlt : g < y.length := by
            refine Nat.lt_of_le_of_ne hg (fun e => hfull ⟨e4, h5, e⟩)
          rw [e4] at hlt ⊢
          have hle := encE_len (ev_of_apply h5)
          exact nextV_torn (framesB es) (encE x) g hlt (by omega)
      have hlo := same _ rfl hB
      by_cases hg0 : y.take g = []
      · refine ⟨t, P, es, ?_, rfl, ⟨hd, hr, .inr ?_⟩, hP, by omega, .inl rfl⟩
        · unfold openR
          rw [hpd, hlo, hg0, List.append_nil, if_neg (by simp)]
        · have hgl : g = 0 := by have := congrArg List.length hg0; rw [List.length_take, List.length_nil] at this; omega
          rw [e3, hg0, List.append_nil, hgl]
          rfl
      · have hpos : 0 < (y.take g).length := by
          cases h : y.take g with
          | nil => exact absurd h hg0
          | cons a l => simp
        have hct : cutT t planN ((framesB es).length : Int) = ({ t with files := [(planN, ⟨framesB es, (framesB es).length⟩)], acts := wrap64 (t.acts + 1) }, 0) := by
          unfold cutT
          rw [if_neg (by rw [hd]; simp), hfg]
          simp only [List.length_append]
          rw [if_neg (by omega)]
          unfold actT
          simp only
          rw [if_pos ha, e3, updF_one]
          simp only [cutF, Int.toNat_natCast, List.take_left, Nat.min_eq_right (Nat.le_add_right _ _)]
        refine ⟨{ t with files := [(planN, ⟨framesB es, (framesB es).length⟩)], acts := wrap64 (t.acts + 1) }, P, es, ?_, rfl, ⟨?_, ?_, .inr rfl⟩, hP, by omega, .inl rfl⟩
        · unfold openR
          rw [hpd, hlo, if_pos (by simp only [List.length_append]; omega)]
          simp only
          rw [hct]
        · exact hd
        · exact hr

theorem changeP_code (p : Pl) (x : Event) : (changeP p x).2.2 = 0 ∨ (changeP p x).2.2 = 21 ∨ (changeP p x).2.2 = 32 := by
  unfold changeP
  repeat' split
  all_goals simp
theorem applyP_code (p : Pl) (x : Event) : (applyP p x).2.2 ≠ 10 := by
  have h := changeP_code p x
  unfold applyP
  split
  · simp
  · split
    · simp only; omega
    · split
      · omega
      · split <;> simp

theorem frames_max : ∀ (es : List Event), (∀ x ∈ es, eventB x = true) → (framesB es).length ≤ 108 * es.length
  | [], _ => Nat.le_refl _
  | x :: es, h => by
    have ih := frames_max es (fun y hy => h y (by simp [hy]))
    have := encE_len (h x (by simp))
    rw [framesB_cons, List.length_append, frameB_len, List.length_cons]
    omega
theorem foldE_events : ∀ (es : List Event) {p q : Pl}, foldE p es = some q → ∀ x ∈ es, eventB x = true
  | [], _, _, _, x, hx => by cases hx
  | y :: es, p, q, h, x, hx => by
    simp only [foldE] at h
    split at h
    · rename_i h1
      rcases List.mem_cons.1 hx with rfl | hx
      · exact ev_of_apply h1
      · exact foldE_events es h x hx
    · cases h

/-- What an event leaves of a master and its tape. -/
theorem doR_disk {P0 P : Pl} {t : Tp} {es : List Event} (hD : Disk t es) (hP : foldE P0 es = some P) (hn : es.length ≤ 500) (x : Event) :
    ((applyP P x).2.2 ≠ 0 ∧ doR t P t.life false x = (t, P, false, (applyP P x).2.2)) ∨
    ((applyP P x).2.2 = 0 ∧ ∃ t', doR t P t.life false x = (t', (applyP P x).1, false, 0) ∧ Disk t' (es ++ [x]) ∧ t'.life = t.life ∧ (t.armed = 0 → t'.armed = 0)) ∨
    ((applyP P x).2.2 = 0 ∧ ∃ t', doR t P t.life false x = (t', P, true, 10) ∧ t'.down = true ∧ Lost t' es (frameB (encE x)) ∧ t.armed ≠ 0) := by
  have hrd : readyB t t.life false = false := by simp [readyB, hD.down]
  by_cases hc : (applyP P x).2.2 = 0
  · right
    have he := ev_of_apply hc
    have hle := encE_len he
    have hfl := frameB_len (encE x)
    have hmx := frames_max es (foldE_events es hP)
    have hnm : isNameB planN = true := by decide
    obtain ⟨F, hF⟩ : ∃ F, F = frameB (encE x) := ⟨_, rfl⟩
    obtain ⟨t1, ht1⟩ : ∃ t1 : Tp, t1 = { t with files := [(planN, ⟨framesB es ++ F, (framesB es).length⟩)] } := ⟨_, rfl⟩
    have hApp : appT t planN F = actT t1 := by
      unfold appT
      rw [if_neg (by rw [hD.down]; simp), if_pos hnm]
      rcases hD.files with ⟨e1, e2⟩ | e2
      · subst e1
        have : fget t.files planN = none := by rw [e2]; rfl
        rw [this]
        simp only
        rw [e2]
        simp only [List.length_nil, dataSum, List.map_nil, List.sum_nil]
        rw [if_neg (by have := hD.room; rw [hF]; omega), ht1]
        rfl
      · have : fget t.files planN = some ⟨framesB es, (framesB es).length⟩ := by rw [e2]; exact fget_one _ _
        rw [this]
        simp only
        rw [e2]
        simp only [dataSum, List.map_cons, List.map_nil, List.sum_cons, List.sum_nil, updF_one, appF]
        rw [if_neg (by have := hD.room; rw [hF]; omega), ht1]
    have hcode := actT_code t1
    have hwr : wrT t F = if (actT t1).2 = 0 then syncT (actT t1).1 planN else actT t1 := by unfold wrT; rw [hApp]
    have hdo : doR t P t.life false x = if (wrT t F).2 ≠ 0 then ((wrT t F).1, P, false || decide ((wrT t F).2 = 10), (wrT t F).2) else ((wrT t F).1, (applyP P x).1, false, 0) := by
      unfold doR
      rw [if_neg (by rw [hrd]; simp), if_neg (by rw [hc]; simp), hF]
    have d1 : t1.down = false := by rw [ht1]; exact hD.down
    have r1 : 65536 ≤ t1.room := by rw [ht1]; exact hD.room
    have f1 : t1.files = [(planN, ⟨framesB es ++ F, (framesB es).length⟩)] := by rw [ht1]
    have l1 : t1.life = t.life := by rw [ht1]
    -- what an act leaves
    have act : ∀ s : Tp, s.down = false → ((actT s).2 = 0 ∧ (actT s).1.down = false ∧ (actT s).1.room = s.room ∧ (actT s).1.files = s.files ∧ (actT s).1.life = s.life ∧ (s.armed = 0 → (actT s).1.armed = 0)) ∨
        ((actT s).2 = 10 ∧ (actT s).1.down = true ∧ (actT s).1.room = s.room ∧ (actT s).1.files = s.files ∧ (actT s).1.armed = 0 ∧ s.armed ≠ 0) := by
      intro s hs
      unfold actT
      split
      · exact .inl ⟨rfl, hs, rfl, rfl, rfl, id⟩
      · rename_i h0
        split
        · exact .inl ⟨rfl, hs, rfl, rfl, rfl, fun h => absurd h h0⟩
        · right
          unfold offT
          simp only
          rw [if_neg (by rw [hs]; simp)]
          exact ⟨by trivial, by trivial, by trivial, by trivial, by trivial, h0⟩
    have m1 : t1.armed = t.armed := by rw [ht1]
    rcases act t1 d1 with ⟨a0, a1, a2, a3, a4, a5⟩ | ⟨a0, a1, a2, a3, a4, a5⟩
    · rw [if_pos a0] at hwr
      have hfg : fget (actT t1).1.files planN = some ⟨framesB es ++ F, (framesB es).length⟩ := by rw [a3, f1]; exact fget_one _ _
      have hsy : syncT (actT t1).1 planN = if (actT (actT t1).1).2 = 0 then ({ (actT (actT t1).1).1 with files := updF (actT (actT t1).1).1.files planN syncF }, 0) else actT (actT t1).1 := by
        unfold syncT
        rw [if_neg (by rw [a1]; simp), hfg]
      rcases act (actT t1).1 a1 with ⟨b0, b1, b2, b3, b4, b5⟩ | ⟨b0, b1, b2, b3, b4, b5⟩
      · left
        rw [if_pos b0] at hsy
        rw [hsy] at hwr
        refine ⟨hc, ?_, ?_, ⟨?_, ?_, .inr ?_⟩, ?_, ?_⟩
        · exact { (actT (actT t1).1).1 with files := updF (actT (actT t1).1).1.files planN syncF }
        · rw [hdo, hwr]
          simp only [ne_eq, not_true_eq_false, if_false]
        · exact b1
        · simp only; rw [b2, a2]; exact r1
        · simp only
          rw [b3, a3, f1, updF_one, framesB_snoc, ← hF]
          rfl
        · simp only; rw [b4, a4, l1]
        · exact fun h => b5 (a5 (m1.trans h))
      · right
        rw [if_neg (by rw [b0]; decide)] at hsy
        rw [hsy] at hwr
        refine ⟨hc, (actT (actT t1).1).1, ?_, b1, ⟨by rw [b2, a2]; exact r1, b4, .inr ?_⟩, fun h => b5 (a5 (m1.trans h))⟩
        · rw [hdo, hwr, b0]
          simp
        · rw [b3, a3, f1, hF]
    · right
      rw [if_neg (by rw [a0]; decide)] at hwr
      refine ⟨hc, (actT t1).1, ?_, a1, ⟨by rw [a2]; exact r1, a4, .inr ?_⟩, fun h => a5 (m1.trans h)⟩
      · rw [hdo, hwr, a0]
        simp
      · rw [a3, f1, hF]
  · left
    refine ⟨hc, ?_⟩
    unfold doR
    rw [if_neg (by rw [hrd]; simp), if_pos hc]
end Go.Proofs.YtcpaaleogmiamaaGreatDoor
