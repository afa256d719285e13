/- The walk of a tape's Swap. -/
/- What an append to a strand leaves. -/
import Derived.Test.YtcpaaleogmiamaaGreatDoorMp9
import Derived.Test.YtcpaaleogmiamaaGreatDoorMp21
namespace Go.Proofs.YtcpaaleogmiamaaGreatDoor
open Go.RowKit

def putFl : List (List UInt8 × Fl) → List UInt8 → Fl → List (List UInt8 × Fl)
  | [], n, f => [(n, f)]
  | x :: l, n, f => if x.1 = n then (n, f) :: l else x :: putFl l n f
def putTp : TpL → List UInt8 → Nat → Fl → TpL
  | [], n, k, f => [(n, k, f)]
  | x :: l, n, k, f => if x.1 = n then (n, k, f) :: l else x :: putTp l n k f
def swapT (t : Tp) (a c : List UInt8) : Tp × Int :=
  if t.down = true then (t, 10)
  else match fget t.files a with
    | none => (t, 12)
    | some f => if isNameB c = true then actT { t with files := putFl (t.files.eraseP (fun x => decide (x.1 = a))) c f } else (t, 1)

theorem putTp_map (n : List UInt8) (k : Nat) (f : Fl) : ∀ (L : TpL), tpMap (putTp L n k f) = sput (tpMap L) n (flPtr k)
  | [] => rfl
  | x :: L => by
    have ih := putTp_map n k f L
    by_cases e : x.1 = n
    · simp [putTp, tpMap, sput, e]
    · have h1 : putTp (x :: L) n k f = x :: putTp L n k f := by simp [putTp, e]
      have h2 : ∀ (M : TpL), tpMap (x :: M) = (x.1, flPtr x.2.1) :: tpMap M := fun _ => rfl
      rw [h1, h2, h2, ih, sput, if_neg e]
theorem putTp_files (n : List UInt8) (k : Nat) (f : Fl) : ∀ (L : TpL), tpFiles (putTp L n k f) = putFl (tpFiles L) n f
  | [] => rfl
  | x :: L => by
    have ih := putTp_files n k f L
    by_cases e : x.1 = n
    · simp [putTp, tpFiles, putFl, e]
    · have h1 : putTp (x :: L) n k f = x :: putTp L n k f := by simp [putTp, e]
      have h2 : ∀ (M : TpL), tpFiles (x :: M) = (x.1, x.2.2) :: tpFiles M := fun _ => rfl
      rw [h1, h2, h2, ih, putFl, if_neg e]
theorem mem_putTp {n : List UInt8} {k : Nat} {f : Fl} : ∀ {L : TpL} {y : List UInt8 × Nat × Fl}, y ∈ putTp L n k f → y = (n, k, f) ∨ y ∈ L
  | [], y, h => .inl (List.mem_singleton.1 h)
  | x :: L, y, h => by
    by_cases e : x.1 = n
    · rw [putTp, if_pos e] at h
      rcases List.mem_cons.1 h with h | h
      · exact .inl h
      · exact .inr (List.mem_cons_of_mem _ h)
    · rw [putTp, if_neg e] at h
      rcases List.mem_cons.1 h with h | h
      · exact .inr (by rw [h]; exact List.mem_cons_self)
      · exact (mem_putTp h).imp id (List.mem_cons_of_mem _)
theorem putTp_nodup {n : List UInt8} {k : Nat} {f : Fl} : ∀ {L : TpL}, (tpBlocks L).Nodup → k ∉ tpBlocks L → (tpBlocks (putTp L n k f)).Nodup
  | [], _, _ => by simp [putTp, tpBlocks]
  | x :: L, h, hk => by
    have h' := List.nodup_cons.1 (show (x.2.1 :: tpBlocks L).Nodup from h)
    have hk' : k ≠ x.2.1 ∧ k ∉ tpBlocks L := by simpa [tpBlocks] using hk
    by_cases e : x.1 = n
    · rw [putTp, if_pos e]
      exact List.nodup_cons.2 ⟨hk'.2, h'.2⟩
    · rw [putTp, if_neg e]
      refine List.nodup_cons.2 ⟨fun hm => ?_, putTp_nodup h'.2 hk'.2⟩
      obtain ⟨y, hy, he⟩ := List.mem_map.1 hm
      rcases mem_putTp hy with rfl | hy
      · exact hk'.1 he
      · exact h'.1 (List.mem_map.2 ⟨y, hy, he⟩)
theorem putFl_len (n : List UInt8) (f : Fl) : ∀ (l : List (List UInt8 × Fl)), (putFl l n f).length ≤ l.length + 1 ∧ dataSum (putFl l n f) ≤ dataSum l + f.data.length
  | [] => by simp [putFl, dataSum]
  | x :: l => by
    have ih := putFl_len n f l
    by_cases e : x.1 = n
    · rw [putFl, if_pos e]
      simp [dataSum]
      omega
    · rw [putFl, if_neg e]
      simp [dataSum] at ih ⊢
      omega
theorem mem_putFl {n : List UInt8} {f : Fl} : ∀ {l : List (List UInt8 × Fl)} {y : List UInt8 × Fl}, y ∈ putFl l n f → y = (n, f) ∨ y ∈ l
  | [], y, h => .inl (List.mem_singleton.1 h)
  | x :: l, y, h => by
    by_cases e : x.1 = n
    · rw [putFl, if_pos e] at h
      rcases List.mem_cons.1 h with h | h
      · exact .inl h
      · exact .inr (List.mem_cons_of_mem _ h)
    · rw [putFl, if_neg e] at h
      rcases List.mem_cons.1 h with h | h
      · exact .inr (by rw [h]; exact List.mem_cons_self)
      · exact (mem_putFl h).imp id (List.mem_cons_of_mem _)

theorem TpAt.swap {w w' : World} {b mb : Nat} {L : TpL} {t : Tp} (h : TpAt w b mb L t) {n c : List UInt8} {x : List UInt8 × Nat × Fl} (hx : flGet L n = some x) (hm : MapSt w' mb (sput (tpMap (L.eraseP (fun x => decide (x.1 = n)))) c (flPtr x.2.1))) (hu : Upd (fun k => k = mb) w w') :
    TpAt w' b mb (putTp (L.eraseP (fun x => decide (x.1 = n))) c x.2.1 x.2.2) { t with files := putFl (t.files.eraseP (fun x => decide (x.1 = n))) c x.2.2 } ∧ ∀ k ∈ tpBlocks (putTp (L.eraseP (fun x => decide (x.1 = n))) c x.2.1 x.2.2), k ∈ tpBlocks L := by
  obtain ⟨hmx, hxn⟩ := flGet_mem hx
  obtain ⟨n1, n2, n3⟩ := h.ne_map
  have hsub : (L.eraseP (fun x => decide (x.1 = n))).Sublist L := List.eraseP_sublist
  obtain ⟨p, hp⟩ : ∃ p : (List UInt8 × Nat × Fl) → Bool, p = fun x => decide (x.1 = n) := ⟨_, rfl⟩
  have hpx : p x = true := by rw [hp]; simpa using hxn
  obtain ⟨a, l1, l2, h1, h2, h3, h4⟩ := List.exists_of_eraseP hmx hpx
  subst hp
  have hax : a = x := by
    have e : flGet L n = some a := by
      unfold flGet
      rw [h3, List.find?_append, List.find?_eq_none.2 (fun y hy => h1 y hy), Option.none_or]
      have h5 : decide (a.1 = n) = true := h2
      simp only [List.find?_cons, h5]
    rw [hx] at e
    exact (Option.some.inj e).symm
  subst hax
  have hnin : a.2.1 ∉ tpBlocks (L.eraseP (fun x => decide (x.1 = n))) := by
    have hap := h.apart
    rw [h4]
    rw [h3] at hap
    simp only [tpBlocks, List.map_append, List.map_cons] at hap ⊢
    have hp := (List.nodup_append.1 hap)
    intro hm
    rcases List.mem_append.1 hm with hm | hm
    · exact hp.2.2 _ hm _ List.mem_cons_self rfl
    · exact (List.nodup_cons.1 hp.2.1).1 hm
  have hfe : t.files.eraseP (fun x => decide (x.1 = n)) = tpFiles (L.eraseP (fun x => decide (x.1 = n))) := by
    rw [h.eq, tpFiles, map_eraseP]
  have hmem : ∀ y ∈ putTp (L.eraseP (fun x => decide (x.1 = n))) c a.2.1 a.2.2, y.2 = a.2 ∨ y ∈ L := fun y hy => by
    rcases mem_putTp hy with rfl | hy
    · exact .inl rfl
    · exact .inr (hsub.subset hy)
  have hsum : dataSum (tpFiles (L.eraseP (fun x => decide (x.1 = n)))) + a.2.2.data.length = dataSum t.files ∧ (tpFiles (L.eraseP (fun x => decide (x.1 = n)))).length + 1 = t.files.length := by
    rw [h.eq, h4]
    conv => rhs; rw [h3]
    constructor
    · conv => rhs; rw [h3]
      simp [dataSum, tpFiles]
      omega
    · simp [tpFiles]
      omega
  have hpl := putFl_len c a.2.2 (tpFiles (L.eraseP (fun x => decide (x.1 = n))))
  refine ⟨⟨(hu.block b h.blkLt n1).trans h.blk, by rw [putTp_map]; exact hm, fun y hy => ?_, putTp_nodup ((hsub.map _).nodup h.apart) hnin, by rw [putTp_files, hfe], ⟨h.ok.room, ?_, ?_, fun y hy => ?_, h.ok.armed⟩⟩, fun k hk => ?_⟩
  · rcases hmem y hy with e | hy
    · rw [e]
      exact (hu.block _ (Array.getElem?_eq_some_iff.1 (h.fls a hmx)).1 (fun e => n2 (List.mem_map.2 ⟨a, hmx, e⟩))).trans (h.fls a hmx)
    · exact (hu.block _ (Array.getElem?_eq_some_iff.1 (h.fls y hy)).1 (fun e => n2 (List.mem_map.2 ⟨y, hy, e⟩))).trans (h.fls y hy)
  · have := h.ok.sum
    simp only [hfe]
    omega
  · have := h.ok.few
    simp only [hfe]
    omega
  · rcases mem_putFl hy with rfl | hy
    · exact h.ok.safe (a.1, a.2.2) (by rw [h.eq]; exact List.mem_map.2 ⟨a, hmx, rfl⟩)
    · exact h.ok.safe y (List.eraseP_sublist.subset hy)
  · obtain ⟨y, hy, rfl⟩ := List.mem_map.1 hk
    rcases hmem y hy with e | hy
    · rw [e]; exact List.mem_map.2 ⟨a, hmx, rfl⟩
    · exact List.mem_map.2 ⟨y, hy, rfl⟩
theorem sdel_tp (L : TpL) (n : List UInt8) : sdel (tpMap L) n = tpMap (L.eraseP (fun x => decide (x.1 = n))) := by
  unfold sdel tpMap
  rw [map_eraseP]

set_option maxRecDepth 100000 in
set_option maxHeartbeats 2000000 in
theorem TSwap_any {w : World} {b mb : Nat} {L : TpL} {t : Tp} (h : TpAt w b mb L t) (n c : List UInt8) :
    Calls Tryz.prog 129 #[.pointer (some ⟨b, 0, none⟩), .string (bs n), .string (bs c)] w (TpTo w b mb L (swapT t n c).1 (.int .i64 (swapT t n c).2)) := by
  have HF := Lib.hid (Tfind_any h n)
  have HN := Lib.hid (fun W => TisName_any c W)
  have hfg : fget t.files n = (flGet L n).map (fun x => x.2.2) := by rw [h.eq]; exact fget_tp L n
  have c0 := h.cells.1
  have H := Lib.hid h
  cases hd : t.down with
  | true =>
    have hv : swapT t n c = (t, 10) := by rw [swapT, if_pos hd]
    rw [find_down hd] at HF
    rw [hv]
    clear hv hfg h
    go_enter Tryz.func129, Tryz.ntmps129
    go_wp2_with (first | (go_at_call 131; refine HF.out.mono ?_; rintro _ w1 ⟨rfl, rfl⟩))
    go_ret
    exact TpTo.same H.out
  | false =>
    cases hg : flGet L n with
    | none =>
      rw [hg] at hfg
      have hv : swapT t n c = (t, 12) := by rw [swapT, if_neg (by rw [hd]; simp), hfg]; rfl
      rw [find_none hd hg] at HF
      rw [hv]
      clear hv hfg hg h
      go_enter Tryz.func129, Tryz.ntmps129
      go_wp2_with (first | (go_at_call 131; refine HF.out.mono ?_; rintro _ w1 ⟨rfl, rfl⟩))
      go_ret
      exact TpTo.same H.out
    | some x =>
      rw [hg] at hfg
      have hv : swapT t n c = if isNameB c = true then actT { t with files := putFl (t.files.eraseP (fun x => decide (x.1 = n))) c x.2.2 } else (t, 1) := by rw [swapT, if_neg (by rw [hd]; simp), hfg]; rfl
      rw [find_some hd hg] at HF
      rw [hv]
      clear hv hfg hd
      obtain ⟨nb, hnb⟩ : ∃ r, isNameB c = r := ⟨_, rfl⟩
      rw [hnb] at HN ⊢
      clear hnb
      cases nb with
      | false =>
        rw [if_neg (by decide)]
        clear hg h
        go_enter Tryz.func129, Tryz.ntmps129
        go_wp2_with (first | (go_at_call 131; refine HF.out.mono ?_; rintro _ w1 ⟨rfl, rfl⟩) | (go_at_call 102; refine (HN.out _).mono ?_; rintro _ w2 ⟨rfl, rfl⟩))
        go_ret
        exact TpTo.same H.out
      | true =>
        rw [if_pos rfl]
        obtain ⟨w3, hdl, hm3, hu3⟩ := run_delete_strs und_mapFile und_str h.map n 0
        have hdl' : ∀ ty, (Builtin.delete_ #[127, 9] ty #[.map (some mb), .string (bs n)]).run Tryz.prog w = .ok (.tuple #[]) w3 := fun ty => hdl
        have c3 := (h.gone n hm3 hu3).cells.1
        rw [sdel_tp] at hm3
        obtain ⟨w5, hmu, hm5, hu5⟩ := run_mapUpdate_strs und_mapFile und_str hm3 c (.pointer (some ⟨x.2.1, 0, none⟩))
        obtain ⟨htp, hbl⟩ := h.swap hg (c := c) hm5 (hu3.trans hu5)
        have HA := Lib.hid (Tact_any htp)
        have HU := Lib.hid (And.intro (hu3.trans hu5) hbl)
        clear hg h htp hbl hu3 hm3 hm5 hu5 hdl
        obtain ⟨t1, ht1⟩ : ∃ t1 : Tp, { t with files := putFl (t.files.eraseP (fun x => decide (x.1 = n))) c x.2.2 } = t1 := ⟨_, rfl⟩
        rw [ht1] at HA ⊢
        clear ht1
        go_enter Tryz.func129, Tryz.ntmps129
        go_wp2_with (first | (go_at_call 131; refine HF.out.mono ?_; rintro _ w1 ⟨rfl, rfl⟩) | (go_at_call 102; refine (HN.out _).mono ?_; rintro _ w2 ⟨rfl, rfl⟩) | (go_at_call 103; refine HA.out.mono ?_; rintro _ w4 ⟨rfl, h1, h2⟩))
        go_ret
        exact TpTo.act (HU.out.1.or (fun k e => .inr (.inl e))) (fun k hk => .inl (HU.out.2 k hk)) ⟨rfl, h1, h2⟩
end Go.Proofs.YtcpaaleogmiamaaGreatDoor
namespace Go.Proofs.YtcpaaleogmiamaaGreatDoor
open Go.RowKit

theorem mem_putFl_names {n : List UInt8} {f : Fl} {l : List (List UInt8 × Fl)} {m : List UInt8} (h : m ∈ (putFl l n f).map (·.1)) : m = n ∨ m ∈ l.map (·.1) := by
  obtain ⟨y, hy, rfl⟩ := List.mem_map.1 h
  rcases mem_putFl hy with rfl | hy
  · exact .inl rfl
  · exact .inr (List.mem_map.2 ⟨y, hy, rfl⟩)
theorem swapT_names {t : Tp} (h : NamesOk t) (a c : List UInt8) : NamesOk (swapT t a c).1 := by
  unfold swapT
  split
  · exact h
  · split
    · exact h
    · split
      · rename_i hn
        have hl : c.length ≤ 32 := by simp only [isNameB, Bool.and_eq_true, decide_eq_true_eq] at hn; exact hn.2
        refine actT_names (h.of_names (fun m hm => ?_))
        rcases mem_putFl_names hm with rfl | hm
        · exact .inr hl
        · obtain ⟨y, hy, rfl⟩ := List.mem_map.1 hm
          exact .inl (List.mem_map.2 ⟨y, List.eraseP_sublist.subset hy, rfl⟩)
      · exact h

theorem Rd.full {w : World} {sz n c : Nat} {a : Option Addr} {xs : List Value} (h : Rd w sz (.slice a n c) n xs) : Rd w sz (.slice a n n) n xs := by
  refine ⟨h.1, ?_⟩
  rcases h.2 with ⟨h1, h2⟩ | ⟨ad, cp, h1, h2, h3, h4⟩
  · simp only [Value.slice.injEq] at h1
    exact .inl ⟨by rw [h1.1, h2], h2⟩
  · simp only [Value.slice.injEq, true_and] at h1
    exact .inr ⟨ad, n, by rw [h1.1], Nat.le_refl _, Nat.le_trans h2 h3, h4⟩

theorem step_append_full2 {P : Program} (w : World) {ops : Array Oper} {o : Oper} {a : Act} {K : Act → World → Prop} {Q : Exit → Act → World → Prop} {E : Prop} (hgd : o.guard = none) (s x : Operand) (t : TypeId)
    (ho : o.op = .call { callee := .builtin .append, args := #[s, x], argTypes := #[t, t] })
    (e : TypeId) (i : TypeInfo) (z : Value) (size bytes : Nat) (ht : P.underlying t = some (.slice e)) (hi : P.info? e = some i) (hz : i.zero = some z) (hsize : i.size = size) (hby : i.bytes = bytes) (hzs : z.cells.size = size)
    (v : Value) (n : Nat) (xs : List Value) (hs : a.eval s = v) (hv : ∃ a, v = .slice a n n) (hrd : Rd w size v n xs)
    (ad : Addr) (m c : Nat) (news : List Value) (hx : a.eval x = .slice (some ad) m c) (hl : news.length = m * size) (hnews : ∀ j u, news[j]? = some u → w.cell? (ad.add j) = some u)
    (hm : 0 < m) (h63 : n + m ≤ 9223372036854775807) (hbytes : (n + m) * bytes ≤ 140737488355328)
    (h : ∀ g cap w', w.heap.size ≤ g → w'.ownsRow w.heap.size e size (.slice (some ⟨g, 0, none⟩) (n + m) cap) (n + m) (xs ++ news) → Below w.heap.size w w' → K (a.put o.dst (.slice (some ⟨g, 0, none⟩) (n + m) cap)) w') :
    if Region.wanted o (yielded ops a.tmps) = true then Oper.wp P o a w K Q else E :=
  step_append_full w hgd s x t ho e i z size bytes ht hi hz hsize hby hzs v n xs hs hv hrd ad m c news hx hl hnews hm h63 hbytes (fun cap w' h1 h2 => h _ cap w' (Nat.le_refl _) h1 h2)

theorem ap_fin {w0 w w10 w11 w12 w13 w15 w16 : World} {S S5 S6 : Nat → Prop} {sb b mb nb : Nat} {L L5 L4 : TpL} {x0 x5 x6 : St} {t0 t5 t' : Tp} {c : Int} (H : Sd w0 w S sb b mb L x0 t0) (hu05 : Upd (SdF S b mb L) w w10) (hS5 : ∀ k, S5 k → S k ∨ w.heap.size ≤ k)
    (hL5 : ∀ k ∈ tpBlocks L5, k ∈ tpBlocks L ∨ w.heap.size ≤ k) (H5 : Sd w0 w10 S5 sb b mb L5 x5 t5) (h03 : Below w10.heap.size w10 w11) (hu4 : Upd (TpF b mb L5) w11 w12) (hn4 : ∀ k ∈ tpBlocks L4, k ∈ tpBlocks L5 ∨ w11.heap.size ≤ k) (ht4 : TpAt w12 b mb L4 t') (hk : NamesOk t')
    (hu5 : Upd (fun k => k = sb) w12 w13) (hnb : w.heap.size ≤ nb ∧ nb < w10.heap.size ∧ ¬ TpF b mb L5 nb) (hu15 : Upd (fun k => k = nb) w13 w15) (hu16 : Upd S5 w15 w16) (hst : StAt w16 S6 sb b x6) (hok : StOk x6)
    (hS6 : ∀ k, S6 k → S5 k ∨ (w.heap.size ≤ k ∧ k < w10.heap.size ∧ ¬ TpF b mb L5 k) ∨ w13.heap.size ≤ k) : SdTo w0 w S sb b mb L (t', x6, c) (.returned (.int .i64 c)) w16 := by
  have hsb := H5.st.own
  have hT : ∀ k, TpF b mb L4 k → (TpF b mb L5 k ∨ w11.heap.size ≤ k) ∧ k < w13.heap.size := fun k hk => ⟨TpF.new hn4 k hk, Nat.lt_of_lt_of_le (ht4.fLt k hk) hu5.size⟩
  have z1 := hu05.size
  have z2 := h03.size
  have z3 := hu4.size
  have z4 := hu5.size
  have hTS : ∀ k, TpF b mb L4 k → ¬ S5 k := fun k hk hs => by
    rcases (hT k hk).1 with h | h
    · exact H5.apart k h hs
    · have := H5.st.lt k hs; omega
  have hTn : ∀ k, TpF b mb L4 k → k ≠ nb := fun k hk e => by
    rcases (hT k hk).1 with h | h
    · exact hnb.2.2 (by rw [← e]; exact h)
    · omega
  have ht16 : TpAt w16 b mb L4 t' := ((ht4.upd hu5 (fun k hk e => hTS k hk (by rw [e]; exact hsb))).upd hu15 hTn).upd hu16 hTS
  have hU : Upd (fun k => SdF S b mb L k ∨ w.heap.size ≤ k) w w16 := by
    have hs5 : ∀ k, S5 k → SdF S b mb L k ∨ w.heap.size ≤ k := fun k hk => (hS5 k hk).imp .inl id
    have ht5 : ∀ k, TpF b mb L5 k → SdF S b mb L k ∨ w.heap.size ≤ k := fun k hk => (TpF.new hL5 k hk).imp .inr id
    exact (((((hu05.mono (fun k _ h => Or.inl h)).trans (Upd.of_below h03)).trans (hu4.mono (fun k _ h => ht5 k h))).trans (hu5.mono (fun k _ e => hs5 k (by rw [e]; exact hsb)))).trans (hu15.mono (fun k _ e => .inr (by rw [e]; exact hnb.1)))).trans (hu16.mono (fun k _ h => hs5 k h))
  have hU2 : Upd (SdF S b mb L) w w16 := hU.mono (fun k hk h => h.elim id (fun h => by omega))
  have zb := H.base.size
  have hA : ∀ k, SdF S b mb L k → w0.heap.size ≤ k := fun k hk => hk.elim (H.aboveS k) (H.aboveT k)
  refine ⟨S6, L4, rfl, ⟨hst, ht16, fun k hk hs => ?_, hok, hk, H.base.trans (hU2.toBelow zb hA), fun k hk => ?_, fun k hk => ?_⟩, hU2, fun k hk => ?_, fun k hk => ?_⟩
  · rcases hS6 k hs with h | ⟨h1, h2, h3⟩ | h
    · exact hTS k hk h
    · rcases (hT k hk).1 with h | h
      · exact h3 h
      · omega
    · have := (hT k hk).2; omega
  · rcases hS6 k hk with h | ⟨h1, h2, h3⟩ | h
    · exact H5.aboveS k h
    · omega
    · omega
  · rcases (hT k hk).1 with h | h
    · exact H5.aboveT k h
    · omega
  · rcases hS6 k hk with h | ⟨h1, h2, h3⟩ | h
    · exact hS5 k h
    · exact .inr h1
    · exact .inr (by omega)
  · rcases hn4 k hk with h | h
    · exact hL5 k h
    · exact .inr (by omega)

theorem StOk.last {x : St} (h : StOk x) {n : Nat} (hn : x.segs.length = n + 1) {g : Sg} (hg : x.segs[n]'(by omega) = g) {bt : Batch} (hb : goodB bt = true) (he : bt.base = endS x.segs) : StOk { x with segs := x.segs.set n ⟨g.base, g.list ++ [bt]⟩ } := by
  refine ⟨h.pre, h.size, fun s hs => ?_⟩
  rcases List.mem_or_eq_of_mem_set hs with hs | rfl
  · exact h.segs s hs
  · have hgo := h.segs g (by rw [← hg]; exact List.getElem_mem _)
    refine ⟨hgo.1, hgo.2.1, hgo.2.2.append ⟨hb, ?_, trivial⟩⟩
    rw [he, endS_last _ n hn, hg]
theorem StOk.push {x : St} (h : StOk x) {bt : Batch} (hb : goodB bt = true) : StOk { x with segs := x.segs ++ [⟨bt.base, [bt]⟩] } := by
  refine ⟨h.pre, h.size, fun s hs => ?_⟩
  rcases List.mem_append.1 hs with hs | hs
  · exact h.segs s hs
  · simp only [List.mem_singleton] at hs
    subst hs
    have G := ((goodB_iff _).1 hb).base
    exact ⟨G.1, G.2, hb, rfl, trivial⟩
end Go.Proofs.YtcpaaleogmiamaaGreatDoor
