/- The walks of flock.turn, flock.no. -/
import Derived.Test.YtdchjepahgecgaaGreatDoorMq9
import Derived.Test.YtdchjepahgecgaaGreatDoorMq10
import Derived.Test.YtdchjepahgecgaaGreatDoorMq11
namespace Go.Proofs.YtdchjepahgecgaaGreatDoor
open Go.RowKit

def encTurn (gen parts : Int) (ms : List (List UInt8)) : List UInt8 := 108 :: ([encI gen, encI parts, 108 :: ((ms.map encX).flatten ++ [101])].flatten ++ [101])
def encNo (code : Int) : List UInt8 := 108 :: ([encI code].flatten ++ [101])

/-- A box of four words is written over. -/
theorem set4 {w : World} {b : Nat} {T : TypeId} {x0 x1 x2 x3 : Value} (h : w.heap[b]? = some (.cells #[x0, x1, x2, x3] T (0, 0))) (y0 y1 y2 y3 : Value) :
    ((((w.setCell ⟨b, 0, none⟩ y0).setCell ⟨b, 1, none⟩ y1).setCell ⟨b, 2, none⟩ y2).setCell ⟨b, 3, none⟩ y3).heap[b]? = some (.cells #[y0, y1, y2, y3] T (0, 0)) ∧
    Upd (fun k => k = b) w ((((w.setCell ⟨b, 0, none⟩ y0).setCell ⟨b, 1, none⟩ y1).setCell ⟨b, 2, none⟩ y2).setCell ⟨b, 3, none⟩ y3) :=
  ⟨setCell_same (o := 3) (v := y3) (setCell_same (o := 2) (v := y2) (setCell_same (o := 1) (v := y1) (setCell_same (o := 0) (v := y0) h))),
    (((upd_set1 w b 0 y0).trans (upd_set1 _ b 1 y1)).trans (upd_set1 _ b 2 y2)).trans (upd_set1 _ b 3 y3)⟩

theorem strs_alloc2 (w : World) (a b : List UInt8) : Strs (w.alloc (.cells #[.string (bs a), .string (bs b)] 9)) (.slice (some ⟨w.heap.size, 0, none⟩) 2 2) [a, b] :=
  Strs.of_owns (N := w.heap.size) (e := 9) ⟨by simp [strCells], .inr ⟨w.heap.size, 2, _, rfl, Nat.le_refl _, heap_alloc_new _ _, Nat.le_refl _, by unfold maxLen; omega, by simp, by simp [strCells]⟩⟩
theorem strs_alloc3 (w : World) (a b c : List UInt8) : Strs (w.alloc (.cells #[.string (bs a), .string (bs b), .string (bs c)] 9)) (.slice (some ⟨w.heap.size, 0, none⟩) 3 3) [a, b, c] :=
  Strs.of_owns (N := w.heap.size) (e := 9) ⟨by simp [strCells], .inr ⟨w.heap.size, 3, _, rfl, Nat.le_refl _, heap_alloc_new _ _, Nat.le_refl _, by unfold maxLen; omega, by simp, by simp [strCells]⟩⟩

/-- What a function that makes a record answers. -/
def RecTo (w : World) (key val : List UInt8) (e : Ending) (w' : World) : Prop := e = .returned (.agg #[.int .i64 0, .string (bs key), .string (bs val), .bool false]) ∧ Below w.heap.size w w'

theorem encI_len {n : Int} (h : I64 n) : (encI n).length ≤ 30 := by
  have := Lib.itoa_length_le n h.1 h.2
  simp [encI]; omega

set_option maxRecDepth 100000 in
theorem no_any (code : Int) (hc : I64 code) {w : World} (hE : Env w) : Calls Tryz.prog 34 #[.int .i64 code] w (RecTo w [110] (encNo code)) := by
  have hbx := heap_alloc_new w (.cells #[.int .i64 0, .string ⟨#[]⟩, .string ⟨#[]⟩, .bool false] 28)
  have hb1 := below_alloc w (.cells #[.int .i64 0, .string ⟨#[]⟩, .string ⟨#[]⟩, .bool false] 28)
  have H1 := Lib.hid (BInt_any hc _ (hE.below hb1))
  have hl : ∀ W, Calls Tryz.prog 76 #[.slice (some ⟨W.heap.size, 0, none⟩) 1 1] (W.alloc (.cells #[.string (bs (encI code))] 9)) fun e w' => e = .returned (.string (bs (encNo code))) ∧ Below W.heap.size W w' := fun W =>
    (BList_any (strs_alloc1 W (encI code)) (by simp) (by have := encI_len hc; simp; omega)).mono fun e w' ⟨h1, h2⟩ => ⟨h1, below_trans (below_alloc _ _) h2⟩
  have HL := Lib.hid hl
  have HB := Lib.hid (And.intro hbx hb1)
  clear hE hl hbx hb1
  go_enter Tryz.func34, Tryz.ntmps34
  go_wp2_with (first | (go_at_call 77; refine H1.out.mono ?_; rintro _ w1 ⟨rfl, hb2⟩; have HB2 := Lib.hid hb2; clear hb2) | (go_at_call 76; refine (HL.out _).mono ?_; rintro _ w2 ⟨rfl, hb3⟩; have hb4 := below_trans HB2.out hb3; have hbx := (hb4.block w.heap.size (by simp)).trans HB.out.1; have r0 := cells_of hbx 0 _ rfl; have r1 := cells_of hbx 1 _ rfl; have r2 := cells_of hbx 2 _ rfl; have r3 := cells_of hbx 3 _ rfl; have f0 := frozen_of (j := 0) hbx; have f1 := frozen_of (j := 1) hbx; have f2 := frozen_of (j := 2) hbx; have f3 := frozen_of (j := 3) hbx; have HX := Lib.hid (And.intro hbx (below_trans HB.out.2 hb4)); clear hbx hb4 hb3))
  obtain ⟨hz, hu⟩ := set4 HX.out.1 (.int .i64 0) (.string ⟨#[110]⟩) (.string (bs (encNo code))) (.bool false)
  have s0 := cells_of hz 0 _ rfl
  have s1 := cells_of hz 1 _ rfl
  have s2 := cells_of hz 2 _ rfl
  have s3 := cells_of hz 3 _ rfl
  exact bodyPost_ret (v := .agg #[.int .i64 0, .string ⟨#[110]⟩, .string (bs (encNo code)), .bool false]) (by simp [results, Tryz.results34, go_sem, s0, s1, s2, s3]) rfl ⟨rfl, HX.out.2.trans (hu.toBelow HX.out.2.size (fun k e => by omega))⟩

set_option maxRecDepth 100000 in
set_option maxHeartbeats 2000000 in
theorem turn_any {w : World} {mv : Value} {ms : List (List UInt8)} (h : Strs w mv ms) (hn : ms.length ≤ 10) (hl : ∀ m ∈ ms, m.length ≤ 1000) (g : List UInt8) (hg : g.length ≤ 100000) (gen parts : Int) (h1 : I64 gen) (h2 : I64 parts) (hE : Env w) :
    Calls Tryz.prog 35 #[.string (bs g), .int .i64 gen, .int .i64 parts, mv] w (RecTo w (116 :: g) (encTurn gen parts ms)) := by
  obtain ⟨a, cap, rfl, -, hml, hC⟩ := h.cells
  have hHE := Lib.hid hE
  have HC := Lib.hid hC
  have HL := Lib.hid hl
  obtain ⟨wb, hwb⟩ : ∃ wb, wb = w.alloc (.cells #[.int .i64 0, .string ⟨#[]⟩, .string ⟨#[]⟩, .bool false] 28) := ⟨_, rfl⟩
  have hbx : wb.heap[w.heap.size]? = some (.cells #[.int .i64 0, .string ⟨#[]⟩, .string ⟨#[]⟩, .bool false] 28 (0, 0)) := by rw [hwb]; exact heap_alloc_new _ _
  have hb1 : Below w.heap.size w wb := by rw [hwb]; exact below_alloc _ _
  have hsb : wb.heap.size = w.heap.size + 1 := by rw [hwb]; simp
  have HB := Lib.hid (And.intro hbx (And.intro hb1 hsb))
  have hlen : ∀ k, ((ms.take k).map encX).length ≤ 10 := fun k => by simp; omega
  obtain ⟨i1, ki, kz0, kz1, kz2⟩ := info_parts info_Str
  clear h hE hC hl hbx hb1 hml hsb
  go_enter Tryz.func35, Tryz.ntmps35
  go_wp2
  rw [← hwb]
  clear hwb
  go_loopg [9, 14] ms.length (fun gk out i wr => ∃ (k : Nat) (ta : Option Addr) (tc : Nat), k ≤ ms.length ∧ gk = ms.length - k ∧ i = .int .i64 k ∧ out = .slice ta k tc ∧ wr.ownsRow wb.heap.size 9 1 (.slice ta k tc) k (strCells ((ms.take k).map encX)) ∧ Below wb.heap.size wb wr)
  case atStart => exact ⟨0, none, 0, Nat.zero_le _, rfl, rfl, rfl, World.ownsRow_nil _ _ _ _, Below.refl _ _⟩
  case round =>
    obtain ⟨k, ta, tc, hk, rfl, rfl, rfl, hown, hbel⟩ := hrel
    have HX := Lib.hid (And.intro hown hbel)
    have hsz := hbel.size
    have hbw : Below w.heap.size w wr := HB.out.2.1.trans (hbel.mono (by have := HB.out.2.2; omega))
    have HBW := Lib.hid hbw
    by_cases hlt : k < ms.length
    · obtain ⟨b, off, rfl, hb, c0⟩ := HC.out k hlt
      have c0 := below_some hbw c0 hb
      have i1' : (k : Int) < (ms.length : Int) := by omega
      have i2 : (0 : Int) ≤ (k : Int) := by omega
      have hlm := HL.out _ (List.getElem_mem hlt)
      have htk : (ms.take (k + 1)).map encX = (ms.take k).map encX ++ [encX ms[k]] := by rw [List.take_succ_eq_append_getElem hlt, List.map_append]; rfl
      have HTK := Lib.hid htk
      have HT := Lib.hid (BText_any ms[k] (by omega) wr (hHE.out.below hbw))
      clear hown hbel hbw htk
      go_wp2_with (first
        | (go_at_call 78; refine HT.out.mono ?_; rintro _ w3 ⟨rfl, hb3⟩; have hs3 := hb3.size)
        | (at_builtin; refine wpList_append_lies _ rfl _ _ 41 rfl wb.heap.size 9 i1 _ 1 16 und_Strings ki kz0 kz1 kz2 rfl (by decide) (.slice ta k tc) k (strCells ((ms.take k).map encX)) rfl ((owns_upd HX.out.1 (Upd.of_below (F := fun _ => False) hb3) (fun _ _ h => h)).alloc _) ⟨w3.heap.size, 0, none⟩ 1 1 [.string (bs (encX ms[k]))] rfl rfl (World.news_of_block (cs := #[.string (bs (encX ms[k]))]) (t := 9) (fr := (0, 0)) (heap_alloc_new w3 _)) (by simp [Value.oneCell']) (by decide) ?_ ?_ ?_ _ rfl ?_; (unfold maxLen; omega); (omega); (simp only [World.size_alloc]; omega); intro g7 cap7 w8 hown8 hgrow8 hat8 hlt8; have H8 := Lib.hid (And.intro hown8 hgrow8); clear hown8 hgrow8 hat8 hlt8))
      go_roundg (ms.length - (k + 1))
      case measure => omega
      case rel =>
        refine ⟨k + 1, some ⟨g7, 0, none⟩, cap7, by omega, rfl, by go_num, rfl, ?_, ?_⟩
        · rw [HTK.out]
          have := H8.out.1
          simpa [strCells] using this
        · exact HX.out.2.trans ((hb3.mono hsz).trans (((upd_alloc (fun j => some j = (Value.slice ta k tc).ownBlock) w3 _).trans (upd_grown H8.out.2)).toBelow (Nat.le_trans hsz hs3) (fun j e => (owns_lt HX.out.1 j e.symm).1)))
    · have hkl : k = ms.length := by omega
      have hown' : wr.ownsRow wb.heap.size 9 1 (.slice ta ms.length tc) ms.length (strCells (ms.map encX)) := by
        rw [hkl, List.take_length] at hown
        exact hown
      subst hkl
      have i1' : ¬ (ms.length : Int) < (ms.length : Int) := by omega
      have hflat : (ms.map encX).flatten.length ≤ 20000 := by
        have hx : ∀ t : List UInt8, t.length ≤ 1000 → (encX t).length ≤ 1100 := by
          intro t ht
          have := Lib.itoa_length_le (t.length : Int) (by omega) (by omega)
          simp [encX]; omega
        have : ∀ l : List (List UInt8), (∀ m ∈ l, m.length ≤ 1000) → (l.map encX).flatten.length ≤ l.length * 1100 := by
          intro l
          induction l with
          | nil => simp
          | cons t l ih =>
            intro hl
            have e1 := hx t (hl t (by simp))
            have e2 := ih (fun m hm => hl m (by simp [hm]))
            simp only [List.map_cons, List.flatten_cons, List.length_append, List.length_cons]
            omega
        have := this ms HL.out
        omega
      have hst : ∀ W, Below wr.heap.size wr W → Strs W (.slice ta ms.length tc) (ms.map encX) := fun W hb => (by have := Strs.of_owns (l := ms.map encX) (by simpa using hown'); simpa using Strs.below this hb)
      have hg1 : ¬ 9223372036854775807 < 1 + (bs g).size := by rw [bs_size]; omega
      have hl3 : (108 :: ((ms.map encX).flatten ++ [101])).length ≤ 20010 := by simp only [List.length_cons, List.length_append, List.length_nil]; omega
      have hc1 : Calls Tryz.prog 77 #[.int .i64 gen] wr fun e w' => e = .returned (.string (bs (encI gen))) ∧ Below wr.heap.size wr w' := BInt_any h1 wr (hHE.out.below hbw)
      have hc2 : ∀ W, Below wr.heap.size wr W → Calls Tryz.prog 77 #[.int .i64 parts] W fun e w' => e = .returned (.string (bs (encI parts))) ∧ Below wr.heap.size wr w' := fun W hb => (BInt_any h2 W (hHE.out.below (hbw.trans (hb.mono hbw.size)))).mono fun e w' ⟨e1, e2⟩ => ⟨e1, hb.trans (e2.mono hb.size)⟩
      have hc3 : ∀ W, Below wr.heap.size wr W → Calls Tryz.prog 76 #[.slice ta ms.length tc] W fun e w' => e = .returned (.string (bs (108 :: ((ms.map encX).flatten ++ [101])))) ∧ Below wr.heap.size wr w' := fun W hb => by
        have h3 := BList_any (hst W hb) (by simp; omega) (by omega)
        exact h3.mono fun e w' ⟨e1, e2⟩ => ⟨e1, hb.trans (e2.mono hb.size)⟩
      have hc4 : ∀ W, Below wr.heap.size wr W → Calls Tryz.prog 76 #[.slice (some ⟨W.heap.size, 0, none⟩) 3 3] (W.alloc (.cells #[.string (bs (encI gen)), .string (bs (encI parts)), .string (bs (108 :: ((ms.map encX).flatten ++ [101])))] 9)) fun e w' => e = .returned (.string (bs (encTurn gen parts ms))) ∧ Below wr.heap.size wr w' := fun W hb => by
        have h3 := BList_any (strs_alloc3 W (encI gen) (encI parts) (108 :: ((ms.map encX).flatten ++ [101]))) (by simp) (by have := encI_len h1; have := encI_len h2; simp only [List.flatten_cons, List.flatten_nil, List.length_append, List.length_nil] at hl3 ⊢; omega)
        exact h3.mono fun e w' ⟨e1, e2⟩ => ⟨e1, hb.trans ((below_trans (below_alloc _ _) e2).mono hb.size)⟩
      have HC1 := Lib.hid hc1
      have HC2 := Lib.hid hc2
      have HC3 := Lib.hid hc3
      have HC4 := Lib.hid hc4
      clear hown hown' hbel hst hc1 hc2 hc3 hc4 hflat hbw HC HL
      generalize (ms.map encX).flatten = FF at *
      generalize encTurn gen parts ms = ET at *
      go_wp2_with (first
        | (go_at_call 77; with_reducible refine HC1.out.mono ?_; rintro _ w3 ⟨rfl, hb3⟩; have H3 := Lib.hid hb3; clear hb3)
        | (go_at_call 77; with_reducible refine (HC2.out _ H3.out).mono ?_; rintro _ w4 ⟨rfl, hb4⟩; have H4 := Lib.hid hb4; clear hb4)
        | (go_at_call 76; with_reducible refine (HC3.out _ H4.out).mono ?_; rintro _ w5 ⟨rfl, hb5⟩; have H5 := Lib.hid hb5; clear hb5)
        | (go_at_call 76; with_reducible refine (HC4.out _ H5.out).mono ?_; rintro _ w6 ⟨rfl, hb6⟩; have hb7 := HX.out.2.trans (hb6.mono hsz); have hbx := (hb7.block w.heap.size (by have := HB.out.2.2; omega)).trans HB.out.1; have r0 := cells_of hbx 0 _ rfl; have r1 := cells_of hbx 1 _ rfl; have r2 := cells_of hbx 2 _ rfl; have r3 := cells_of hbx 3 _ rfl; have f0 := frozen_of (j := 0) hbx; have f1 := frozen_of (j := 1) hbx; have f2 := frozen_of (j := 2) hbx; have f3 := frozen_of (j := 3) hbx; have HXX := Lib.hid (And.intro hbx (HBW.out.trans (hb6.mono HBW.out.size))); clear hbx hb7 hb6))
      obtain ⟨hz, hu⟩ := set4 HXX.out.1 (.int .i64 0) (.string (⟨#[116]⟩ ++ bs g)) (.string (bs ET)) (.bool false)
      have s0 := cells_of hz 0 _ rfl
      have s1 := cells_of hz 1 _ rfl
      have s2 := cells_of hz 2 _ rfl
      have s3 := cells_of hz 3 _ rfl
      have hkey : (⟨#[116]⟩ : ByteArray) ++ bs g = bs (116 :: g) := by rw [show (⟨#[116]⟩ : ByteArray) = bs [116] from rfl, bs_append]; rfl
      exact bodyPost_ret (v := .agg #[.int .i64 0, .string (⟨#[116]⟩ ++ bs g), .string (bs ET), .bool false]) (by simp [results, Tryz.results35, go_sem, s0, s1, s2, s3]) rfl ⟨by rw [hkey], HXX.out.2.trans (hu.toBelow HXX.out.2.size (fun k e => by omega))⟩
end Go.Proofs.YtdchjepahgecgaaGreatDoor
