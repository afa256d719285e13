/- slices.Sorted(maps.Keys(m)) at a tape's files; tape.Names. -/
/- The walk of tape.kept. -/
/- tape.On in plain words: what is left of a tape's files. -/
/- Rows of messages that tell of places: in plain words. -/
import Derived.Test.YtcpaaleogmiamaaGreatDoorMh28
import Derived.Test.YtcpaaleogmiamaaGreatDoorMh16
import Derived.Test.YtcpaaleogmiamaaGreatDoorMh25
namespace Go.Proofs.YtcpaaleogmiamaaGreatDoor
open Go.RowKit Go.Maps Go.Sort Go.Shelf

theorem sortsT (m : Nat) : AnyZ.SortsIn Tryz.prog Tryz.sortedT_ren Fence.wide m :=
  ⟨fun blk off cap ss W hH hblk hsz => callsIn_wide.2 (AnyM.slices_Sort_string Tryz.sortT blk off cap ss W hH hblk hsz),
   fun p cap W => callsIn_wide.2 (AnyM.slices_Sort_string_none Tryz.sortT p cap W)⟩

/-- How an element of the map reads: as nothing (for its keys alone). -/
def anyElem {H : Type} (_ : Value) : Option (DataW H × List MemPlace) := some (.lit (.bool true), [])

theorem insert_perm {H : Type} (x : Lit × DataW H) (l : List (Lit × DataW H)) : (DataW.insert x l).Perm (x :: l) := by
  induction l with
  | nil => exact List.Perm.refl _
  | cons y r ih =>
    unfold DataW.insert
    split
    · exact List.Perm.refl _
    · exact (List.Perm.cons y ih).trans (List.Perm.swap x y r)

theorem foldr_insert_perm {H : Type} (l : List (Lit × DataW H)) : (l.foldr DataW.insert []).Perm l := by
  induction l with
  | nil => exact List.Perm.refl _
  | cons x l ih => exact (insert_perm x _).trans (List.Perm.cons x ih)

theorem strOf_bs (l : List UInt8) : (bs l).data.toList = l := bs_data l
theorem owns_of_mapSt {w : World} {B : Nat} {m : SMap} (h : MapSt w B m) (hn : ∀ p ∈ m, p.1.length ≤ maxLen) (hl : m.length ≤ maxLen) :
    ∃ D : DataW Unit, w.ownsMap Tryz.prog 9 anyElem B m.length D ∧ Maps.size D = m.length ∧ ∀ ss : List (List UInt8), ss.Perm (strKeys D) → ss.Perm (m.map (·.1)) := by
  obtain ⟨es, clock, hb, he, hst⟩ := h
  have hlen : es.size = m.length := by have := congrArg List.length he; simpa using this
  have hk : ∀ x ∈ es.toList, ∃ p ∈ m, x.key = .string (bs p.1) := by
    intro x hx
    have h1 : (x.key, x.val) ∈ m.map (fun p => (Value.string (bs p.1), p.2)) := by rw [← he]; exact List.mem_map.2 ⟨x, hx, rfl⟩
    obtain ⟨p, hp, hpe⟩ := List.mem_map.1 h1
    simp only [Prod.mk.injEq] at hpe
    exact ⟨p, hp, hpe.1.symm⟩
  have hrd : ∀ x ∈ es.toList, ∀ p ∈ m, x.key = .string (bs p.1) → WideElems.rd (H := Unit) Tryz.prog 9 anyElem x = some (.string p.1, .lit (.bool true)) := by
    intro x hx p hp e
    have hs : (bs p.1).size ≤ maxLen := by rw [bs_size]; exact hn p hp
    simp [WideElems.rd, e, keyOf, mapKey, anyElem, bs_data, hs]
  refine ⟨_, ⟨es, clock, hb, ⟨by omega, hst, ?_⟩, by omega, rfl⟩, ?_, ?_⟩
  · intro x hx
    obtain ⟨p, hp, e⟩ := hk x hx
    exact ⟨_, hrd x hx p hp e⟩
  · show ((es.toList.map _).foldr DataW.insert []).length = _
    rw [(foldr_insert_perm _).length_eq]; simpa using hlen
  · intro ss hss
    refine hss.trans ?_
    show (((es.toList.map _).foldr DataW.insert []).map fun p => Go.strOf p.1).Perm _
    refine ((foldr_insert_perm _).map _).trans ?_
    rw [List.map_map]
    have e2 : es.toList.map ((fun p => Go.strOf p.1) ∘ WideElems.rg (H := Unit) Tryz.prog 9 anyElem) = es.toList.map (fun x => match x.key with | .string s => s.data.toList | _ => []) := by
      apply List.map_congr_left
      intro x hx
      obtain ⟨p, hp, e⟩ := hk x hx
      simp [WideElems.rg, hrd x hx p hp e, e, Go.strOf, bs_data]
    rw [e2]
    have e3 := congrArg (fun l => l.map (fun y : Value × Value => match y.1 with | .string s => s.data.toList | _ => [])) he
    simp only [List.map_map] at e3
    have e4 : es.toList.map (fun x => match x.key with | .string s => s.data.toList | _ => []) = m.map (·.1) := by
      simpa [Function.comp_def, bs_data] using e3
    rw [e4]

/-- What slices.Sorted(maps.Keys(m)) hands back. -/
def SortedNames (w : World) (ks : List (List UInt8)) (e : Ending) (w' : World) : Prop :=
  ∃ v, e = .returned v ∧ w'.ownsRow w.heap.size 9 1 v ks.length ((ks.mergeSort (fun x y => decide (x ≤ y))).map (fun l => Value.string (bs l))) ∧ Below w.heap.size w w'

theorem KeysT_any (mb : Option Nat) (w : World) : Calls Tryz.prog 118 #[.map mb] w fun e w' =>
    e = .returned (.func (.func 164) #[] #[.pointer (some ⟨w.heap.size, 0, none⟩)]) ∧ w' = w.alloc (.cells #[.map mb] 127) :=
  (callsIn_wide (n := 5)).1 (AnyZ.keys_in Tryz.keysT Fence.wide 5 trivial rfl mb w)

theorem SortedT_any {w : World} {B : Nat} {m : SMap} (h : MapSt w B m) (hn : ∀ p ∈ m, p.1.length ≤ maxLen) (hl : m.length ≤ 1000000) :
    Calls Tryz.prog 117 #[.func (.func 164) #[] #[.pointer (some ⟨w.heap.size, 0, none⟩)]] (w.alloc (.cells #[.map (some B)] 127))
      (SortedNames (w.alloc (.cells #[.map (some B)] 127)) (m.map (·.1))) := by
  obtain ⟨D, hown, hsz, hperm⟩ := owns_of_mapSt h hn (by unfold maxLen; omega)
  have hbl := hown.lt
  have hseq : SeqGives Fence.wide 2 Tryz.prog 164 #[.pointer (some ⟨w.heap.size, 0, none⟩)] encStr (fun ss => ss.Perm (strKeys D)) (Maps.size D) (w.alloc (.cells #[.map (some B)] 127)) :=
    AnyZ.keys_gives (ρ := Tryz.keysT_ren) { Tryz.keysT with } Fence.wide _ trivial rfl (by omega) w.heap.size B m.length D _ (by simp) (by simp) (by
      obtain ⟨es, clock, hb, Ft, hs, hD⟩ := hown
      exact ⟨es, clock, (Below.heap_alloc _ _ B hbl).trans hb, Ft, hs, hD⟩)
  have cS := AnyZ.sorted_in Tryz.sortedT Fence.wide 5 trivial trivial trivial trivial rfl (by omega) (sortsT _) (enters_of Tryz.func163 (by kernel_rfl) rfl) 164 #[.pointer (some ⟨w.heap.size, 0, none⟩)] trivial (enters_of Tryz.func164 (by kernel_rfl) rfl) _ _ (by rw [hsz]; unfold maxLen; omega) (by rw [hsz]; omega) _ hseq
  refine ((callsIn_wide (n := 5)).1 cS).mono ?_
  rintro e w' ⟨v, ss, rfl, hS, hrow, -, hb⟩
  have hp := hperm ss hS
  refine ⟨v, rfl, ?_, hb⟩
  have hms := mergeSort_of_perm hp
  rw [← hms, ← hp.length_eq]
  exact hrow

def namesV (t : Tp) : List (List UInt8) := (t.files.map (·.1)).mergeSort (fun x y => decide (x ≤ y))
set_option maxRecDepth 100000 in
theorem TNames_any {w : World} {b mb : Nat} {L : TpL} {t : Tp} (h : TpAt w b mb L t) (hn : ∀ x ∈ t.files, x.1.length ≤ 32) : Calls Tryz.prog 48 #[.pointer (some ⟨b, 0, none⟩)] w fun e w' =>
    ∃ v, e = .returned v ∧ w'.ownsRow w.heap.size 9 1 v (namesV t).length ((namesV t).map (fun l => Value.string (bs l))) ∧ Below w.heap.size w w' := by
  have hk : (tpMap L).map (·.1) = t.files.map (·.1) := by rw [h.eq]; simp [tpMap, tpFiles, List.map_map, Function.comp_def]
  have hl : (tpMap L).length ≤ 1000000 := by
    have := h.ok.few
    have e := congrArg List.length hk
    simp only [List.length_map] at e ⊢
    omega
  have hm : ∀ p ∈ tpMap L, p.1.length ≤ maxLen := by
    intro p hp
    obtain ⟨x, hx, rfl⟩ := List.mem_map.1 hp
    have : (x.1, x.2.2) ∈ t.files := by rw [h.eq]; exact List.mem_map.2 ⟨x, hx, rfl⟩
    have := hn _ this
    simp only at this ⊢
    unfold maxLen
    omega
  have hS := SortedT_any h.map hm hl
  rw [hk] at hS
  have c0 := h.cells.1
  have hlen : (t.files.map (·.1)).length = (namesV t).length := by simp [namesV]
  have HS := Lib.hid hS
  have HL := Lib.hid hlen
  clear h hS hm hl hk hlen hn
  go_enter Tryz.func48, Tryz.ntmps48
  go_wp2_with (first
    | (go_at_call 118; refine (KeysT_any _ _).mono ?_; rintro _ w1 ⟨rfl, rfl⟩)
    | (go_at_call 117; refine HS.out.mono ?_; rintro _ w2 ⟨v, rfl, hrow, hb⟩))
  go_ret
  refine ⟨v, rfl, ?_, below_trans (below_alloc _ _) hb⟩
  rw [← HL.out]
  exact owns_mono hrow (by simp)
end Go.Proofs.YtcpaaleogmiamaaGreatDoor
namespace Go.Proofs.YtcpaaleogmiamaaGreatDoor
open Go.RowKit

set_option maxRecDepth 100000 in
theorem Tkept_any (x : Int) (k : Nat) (hk : k ≤ 4194304) (w : World) : Calls Tryz.prog 82 #[.int .i64 x, .int .i64 (k : Int)] w fun e w' => ∃ f : Nat, f ≤ k ∧ e = .returned (.int .i64 (f : Int)) ∧ w' = w := by
  have k0 : ¬ (k : Int) + 1 = 0 := by omega
  have k1 : IntKind.i64.wrap ((k : Int) + 1) = (k : Int) + 1 := IntWalk.i64_in _ (by omega)
  have k2 : wrap64 ((k : Int) + 1) = (k : Int) + 1 := by unfold wrap64; omega
  have hb1 : x.tmod ((k : Int) + 1) < (k : Int) + 1 := Int.tmod_lt_of_pos _ (by omega)
  have hb2 : -((k : Int) + 1) < x.tmod ((k : Int) + 1) := Int.lt_tmod_of_pos _ (by omega)
  go_enter Tryz.func82, Tryz.ntmps82
  go_wp2
  · rename_i h1
    go_ret
    exact ⟨(x.tmod ((k : Int) + 1) + ((k : Int) + 1)).toNat, by omega, congrArg (fun z => Ending.returned (.int .i64 z)) (Int.toNat_of_nonneg (by omega)).symm, rfl⟩
  · rename_i h1
    go_ret
    exact ⟨(x.tmod ((k : Int) + 1)).toNat, by omega, congrArg (fun z => Ending.returned (.int .i64 z)) (Int.toNat_of_nonneg (by omega)).symm, rfl⟩
end Go.Proofs.YtcpaaleogmiamaaGreatDoor
namespace Go.Proofs.YtcpaaleogmiamaaGreatDoor
open Go.RowKit

/-- A file of which so much more than the safe part is kept. -/
def onF (g : Nat) (f : Fl) : Fl := ⟨f.data.take (f.safe + g), f.safe + g⟩
def KeptF (f f' : Fl) : Prop := ∃ g, f.safe + g ≤ f.data.length ∧ f' = onF g f

theorem KeptF.trans {a b c : Fl} (h : KeptF a b) (k : KeptF b c) : KeptF a c := by
  obtain ⟨g, h1, rfl⟩ := h
  obtain ⟨g2, h2, rfl⟩ := k
  simp only [onF, List.length_take] at h2
  have : g2 = 0 := by omega
  subst this
  refine ⟨g, h1, ?_⟩
  simp only [onF, Nat.add_zero, List.take_take, Nat.min_self]
theorem KeptF.full {f : Fl} (h : f.data.length - f.safe = 0) (hs : f.safe ≤ f.data.length) : KeptF f f := by
  refine ⟨0, by omega, ?_⟩
  obtain ⟨d, s⟩ := f
  simp only [onF, Nat.add_zero] at *
  rw [List.take_of_length_le (by omega)]

/-- Two lists, element by element. -/
inductive All2 {α β : Type} (R : α → β → Prop) : List α → List β → Prop
  | nil : All2 R [] []
  | cons {a : α} {b : β} {l : List α} {m : List β} : R a b → All2 R l m → All2 R (a :: l) (b :: m)

/-- Files, some of which (those of the names in 'done' at least) are cut. -/
def OnR (done : List (List UInt8)) (l l' : List (List UInt8 × Fl)) : Prop := All2 (fun x y => y.1 = x.1 ∧ (KeptF x.2 y.2 ∨ (y.2 = x.2 ∧ x.1 ∉ done))) l l'

theorem OnR.start (l : List (List UInt8 × Fl)) : OnR [] l l := by
  unfold OnR
  induction l with
  | nil => exact .nil
  | cons x l ih => exact .cons ⟨rfl, .inr ⟨rfl, by simp⟩⟩ ih
theorem OnR.step {done : List (List UInt8)} {n : List UInt8} {g : Nat} {l l' : List (List UInt8 × Fl)} (h : OnR done l l') (hg : ∀ y ∈ l', y.1 = n → y.2.safe + g ≤ y.2.data.length) : OnR (done ++ [n]) l (updF l' n (onF g)) := by
  unfold OnR at *
  induction h with
  | nil => exact .nil
  | @cons x y l l' hxy _ ih =>
    refine .cons ?_ (ih (fun z hz => hg z (List.mem_cons_of_mem _ hz)))
    obtain ⟨e, hk⟩ := hxy
    by_cases hn : y.1 = n
    · simp only [if_pos hn]
      have hy : KeptF y.2 (onF g y.2) := ⟨g, hg y (List.mem_cons_self ..) hn, rfl⟩
      refine ⟨e, .inl ?_⟩
      rcases hk with hk | ⟨hk, -⟩
      · exact hk.trans hy
      · rw [← hk]; exact hy
    · simp only [if_neg hn]
      refine ⟨e, hk.imp id (fun hk => ⟨hk.1, ?_⟩)⟩
      simp only [List.mem_append, List.mem_singleton, not_or]
      exact ⟨hk.2, by rw [← e]; exact hn⟩
/-- A file that is safe whole stays as it is. -/
theorem OnR.skip {done : List (List UInt8)} {n : List UInt8} {l l' : List (List UInt8 × Fl)} (h : OnR done l l') (hg : ∀ y ∈ l', y.1 = n → y.2.data.length - y.2.safe = 0 ∧ y.2.safe ≤ y.2.data.length) : OnR (done ++ [n]) l l' := by
  unfold OnR at *
  induction h with
  | nil => exact .nil
  | @cons x y l l' hxy _ ih =>
    refine .cons ?_ (ih (fun z hz => hg z (List.mem_cons_of_mem _ hz)))
    obtain ⟨e, hk⟩ := hxy
    refine ⟨e, ?_⟩
    rcases hk with hk | ⟨hk, hd⟩
    · exact .inl hk
    · by_cases hn : y.1 = n
      · obtain ⟨h1, h2⟩ := hg y (List.mem_cons_self ..) hn
        rw [hk] at h1 h2 ⊢
        exact .inl (KeptF.full h1 h2)
      · refine .inr ⟨hk, ?_⟩
        simp only [List.mem_append, List.mem_singleton, not_or]
        exact ⟨hd, by rw [← e]; exact hn⟩
theorem OnR.done {done : List (List UInt8)} {l l' : List (List UInt8 × Fl)} (h : OnR done l l') (hd : ∀ x ∈ l, x.1 ∈ done) : All2 (fun x y => y.1 = x.1 ∧ KeptF x.2 y.2) l l' := by
  unfold OnR at h
  induction h with
  | nil => exact .nil
  | @cons x y l l' hxy _ ih =>
    refine .cons ⟨hxy.1, hxy.2.elim id (fun hk => absurd (hd x (List.mem_cons_self ..)) hk.2)⟩ (ih (fun z hz => hd z (List.mem_cons_of_mem _ hz)))
end Go.Proofs.YtcpaaleogmiamaaGreatDoor
namespace Go.Proofs.YtcpaaleogmiamaaGreatDoor
open Go.RowKit

theorem All2.snoc {α β : Type} {R : α → β → Prop} {l : List α} {m : List β} {a : α} {b : β} (h : All2 R l m) (hr : R a b) : All2 R (l ++ [a]) (m ++ [b]) := by
  induction h with
  | nil => exact .cons hr .nil
  | cons h1 _ ih => exact .cons h1 ih
theorem All2.length {α β : Type} {R : α → β → Prop} {l : List α} {m : List β} (h : All2 R l m) : l.length = m.length := by
  induction h with
  | nil => rfl
  | cons _ _ ih => simp [ih]
theorem All2.get {α β : Type} {R : α → β → Prop} {l : List α} {m : List β} (h : All2 R l m) : ∀ (i : Nat) (h1 : i < l.length) (h2 : i < m.length), R l[i] m[i] := by
  induction h with
  | nil => intro i h1; simp at h1
  | cons hr _ ih =>
    intro i h1 h2
    cases i with
    | zero => exact hr
    | succ i => exact ih i (by simpa using h1) (by simpa using h2)
theorem All2.append {α β : Type} {R : α → β → Prop} {l l' : List α} {m m' : List β} (h : All2 R l m) (h' : All2 R l' m') : All2 R (l ++ l') (m ++ m') := by
  induction h with
  | nil => exact h'
  | cons h1 _ ih => exact .cons h1 ih

/-- What a message on a place says: part, epoch, learner, to whom, how many lives. -/
structure Pm where
  part : Int
  epoch : Int
  learner : Int
  node : Int
  lives : Nat
  deriving DecidableEq
def MsgRel (e : Pm) (c : List Value) : Prop := ∃ (ca la : Option Addr) (cl cc lc : Nat), c = placeM e.part e.epoch e.learner e.node (.slice ca cl cc) (.slice la e.lives lc)
theorem MsgRel.length {e : Pm} {c : List Value} (h : MsgRel e c) : c.length = 38 := by
  obtain ⟨ca, la, cl, cc, lc, rfl⟩ := h
  rfl
/-- The cells of a row of messages. -/
def MsRel (E : List Pm) (ms : List Value) : Prop := ∃ Ls : List (List Value), ms = Ls.flatten ∧ All2 MsgRel E Ls
theorem MsRel.nil : MsRel [] [] := ⟨[], rfl, .nil⟩
theorem MsRel.snoc {E : List Pm} {ms : List Value} {e : Pm} {c : List Value} (h : MsRel E ms) (hc : MsgRel e c) : MsRel (E ++ [e]) (ms ++ c) := by
  obtain ⟨Ls, rfl, h2⟩ := h
  exact ⟨Ls ++ [c], by simp, h2.snoc hc⟩
theorem MsRel.append {E E' : List Pm} {ms ms' : List Value} (h : MsRel E ms) (h' : MsRel E' ms') : MsRel (E ++ E') (ms ++ ms') := by
  obtain ⟨Ls, rfl, h2⟩ := h
  obtain ⟨Ls', rfl, h3⟩ := h'
  exact ⟨Ls ++ Ls', by simp, h2.append h3⟩
/-- The cells of the message at a place of the row. -/
theorem MsRel.at {E : List Pm} : ∀ {ms : List Value}, MsRel E ms → ∀ (i : Nat) (hi : i < E.length), ∃ c, MsgRel E[i] c ∧ ∀ j u, c[j]? = some u → ms[i * 38 + j]? = some u := by
  induction E with
  | nil => intro ms _ i hi; simp at hi
  | cons e E ih =>
    rintro ms ⟨Ls, rfl, h⟩ i hi
    cases h with
    | @cons _ c _ Ls hr h =>
      have hl := hr.length
      cases i with
      | zero =>
        refine ⟨c, hr, fun j u hu => ?_⟩
        have hj : j < c.length := (List.getElem?_eq_some_iff.1 hu).1
        rw [Nat.zero_mul, Nat.zero_add, List.flatten_cons, List.getElem?_append_left hj]
        exact hu
      | succ i =>
        obtain ⟨c', h1, h2⟩ := ih ⟨Ls, rfl, h⟩ i (by simpa using hi)
        refine ⟨c', h1, fun j u hu => ?_⟩
        rw [List.flatten_cons, List.getElem?_append_right (by omega), show (i + 1) * 38 + j - c.length = i * 38 + j by omega]
        exact h2 j u hu

/-- What is sent of the places in a list. -/
def placesE (q : Pl) (T : List Int) : List Pm := T.flatMap (fun i => q.lives.map (fun l => ⟨i, (atP q.parts i).epoch, (atP q.parts i).learner, l.1, q.lives.length⟩))
theorem placesE_succ (q : Pl) (T : List Int) (k : Nat) (hk : k < T.length) : placesE q (T.take (k + 1)) = placesE q (T.take k) ++ q.lives.map (fun l => ⟨T[k], (atP q.parts T[k]).epoch, (atP q.parts T[k]).learner, l.1, q.lives.length⟩) := by
  unfold placesE
  rw [List.take_succ_eq_append_getElem hk, List.flatMap_append]
  simp
end Go.Proofs.YtcpaaleogmiamaaGreatDoor
