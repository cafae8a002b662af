/- Ranges of whole numbers: all of them, walked. -/
import Derived.Test.YtbfhiegbgkkgiaaGreatC14
import Derived.Test.YtbfhiegbgkkgiaaGreatC03
import Derived.Deep.RegionHeld3
import Derived.Outline
import Derived.Deep.QuietTactic
import Derived.BigQuiet
import Derived.Deep.LoopGhost
import Derived.Test.YtbfhiegbgkkgiaaGreatC13
namespace Go.Proofs.YtbfhiegbgkkgiaaGreat
open Go.RowKit
open Sc
def scs (l : List Span) : List Value := l.flatMap (fun s => [.int .i64 (s.1 : Int), .int .i64 (s.2.1 : Int), .int .i64 (s.2.2 : Int)])
theorem scs_length (l : List Span) : (scs l).length = l.length * 3 := by
  induction l with
  | nil => rfl
  | cons p l ih =>
    unfold scs at ih ⊢
    rw [List.flatMap_cons, List.length_append, ih]
    simp
    omega
theorem scs_append (l m : List Span) : scs (l ++ m) = scs l ++ scs m := by unfold scs; rw [List.flatMap_append]
theorem scs_one (l : List Span) : ∀ u ∈ scs l, u.oneCell' = true := by
  intro u hu
  unfold scs at hu
  obtain ⟨s, _, h⟩ := List.mem_flatMap.1 hu
  rcases List.mem_cons.1 h with rfl | h
  · rfl
  · rcases List.mem_cons.1 h with rfl | h
    · rfl
    · rcases List.mem_cons.1 h with rfl | h
      · rfl
      · cases h
theorem elem_span : Elem Tryz.prog 125 135 3 24 := elem_of Tryz.underlying125 (z := .agg #[.int .i64 0, .int .i64 0, .int .i64 0]) (by kernel_rfl) (by decide) (by decide)
def OwnS (w : World) (base : Nat) (A : Option Addr) (c : Nat) (L : List Span) : Prop := Own w base 135 3 A L.length c (scs L)
/-- Block g is a scale of the accuracy a. -/
structure Scl (w : World) (g : Nat) (A : Option Addr) (c : Nat) (a : Nat) (T : List Span) : Prop where
  blk : Blk w g 127 #[.int .i64 (a : Int), .slice A T.length c]
  own : OwnS w g A c T
theorem span_new (w : World) (s : Span) : Reads (w.alloc (.cells #[.int .i64 (s.1 : Int), .int .i64 (s.2.1 : Int), .int .i64 (s.2.2 : Int)] 135)) (w.alloc (.cells #[.int .i64 (s.1 : Int), .int .i64 (s.2.1 : Int), .int .i64 (s.2.2 : Int)] 135)).heap.size 3 (some ⟨w.heap.size, 0, none⟩) 1 (scs [s]) :=
  Reads.lit (newest _ _) rfl rfl
theorem Scl.below {w w' : World} {g c a : Nat} {A : Option Addr} {T : List Span} (h : Scl w g A c a T) (hb : Below w.heap.size w w') : Scl w' g A c a T := ⟨h.blk.below hb h.blk.lt, Own.below h.own hb⟩
theorem scnew_no (a : Int) (w : World) (h : a < 100 ∨ 5000 < a) : Calls Tryz.prog 51 #[.int .i64 a] w fun e w' => e = .returned (.tuple #[.pointer none, .int .i64 1]) ∧ w = w' := by
  have hc : decide (a < 100) = true ∨ decide (a < 100) = false ∧ decide (5000 < a) = true := by
    by_cases h1 : a < 100
    · exact .inl (by simp; omega)
    · exact .inr ⟨by simp; omega, by simp; omega⟩
  clear h
  rcases hc with e1 | ⟨e1, e2⟩
  all_goals
    go_enter Tryz.func51, Tryz.ntmps51
    go_wp2_with fail
    go_ret2
    exact ⟨rfl, rfl⟩
set_option maxHeartbeats 3200000 in
set_option maxRecDepth 100000 in
theorem scnew_t (a : Nat) (w : World) (ha0 : 100 ≤ a) (ha : a ≤ 5000) : Calls Tryz.prog 51 #[.int .i64 (a : Int)] w fun e w' => ∃ g A c, e = .returned (.tuple #[.pointer (some ⟨g, 0, none⟩), .int .i64 0]) ∧ w.heap.size ≤ g ∧ Scl w' g A c a (spans a) ∧ Below w.heap.size w w' := by
  have e1 : decide ((a : Int) < 100) = false := by simp; omega
  have e2 : decide ((5000 : Int) < (a : Int)) = false := by simp; omega
  have e1b : decide (a < 100) = false := by simp; omega
  have e2b : decide (5000 < a) = false := by simp; omega
  have HAA := Lib.hid (And.intro ha0 ha)
  clear ha0 ha
  go_enter Tryz.func51, Tryz.ntmps51
  go_wp2_with fail
  clear e1 e2 e1b e2b
  have HB0 := Lib.hid (Blk.new w 127 #[.int .i64 (a : Int), .slice none 0 0])
  go_loopw [5] (fun v wr => ∃ (T : List Span) (low f : Nat) (A : Option Addr) (c : Nat), v = .int .i64 (low : Int) ∧ At a T low f ∧ Blk wr w.heap.size 127 #[.int .i64 (a : Int), .slice A T.length c] ∧ OwnS wr w.heap.size A c T ∧ Below w.heap.size w wr) (fun v _ => 9223372036854775807 - (intOf v).toNat)
  case atStart => exact ⟨[], 1, 4410, none, 0, rfl, At.start a, HB0.out, Own.nil _ _ _ _, (Below.refl _ _).alloc (Nat.le_refl _) _⟩
  case round =>
    obtain ⟨T, low, f, A, c, rfl, hat, hblk, hown, hbel⟩ := hrel
    obtain ⟨wo, rfl⟩ : ∃ wo : World, wo = wr := ⟨_, rfl⟩
    have htl := spans_len hat
    obtain ⟨st1, st2⟩ := hat.step HAA.out.1 HAA.out.2
    have hlow1 := hat.low1
    have hlow2 := hat.low2
    obtain ⟨md1, md2⟩ := mid_le (a := a) hlow2
    obtain ⟨hg1, hg2⟩ := high_le HAA.out.2 md2
    have hcell : wo.cell? ⟨w.heap.size, 0, none⟩ = some (.int .i64 (a : Int)) := by rw [hblk.cell]; rfl
    have HFR := Lib.hid (from_t w.heap.size a low wo hcell HAA.out.1 HAA.out.2 hlow2)
    have hsp : spanOf a low = (low, midOf a low, highOf a (midOf a low)) := rfl
    rw [hsp] at HFR st1 st2
    generalize midOf a low = mid at *
    generalize highOf a mid = hi at *
    unfold spV at HFR
    dsimp only at HFR st1 st2
    have hhl : (hi : Int) ≤ 9223372036854775807 := by omega
    have hll : (low : Int) ≤ (hi : Int) := by omega
    have hl1 : (1 : Int) ≤ (low : Int) := by omega
    have HLH := Lib.hid (show low ≤ hi by omega)
    have HST1 := Lib.hid st1
    have HST2 := Lib.hid st2
    have HBLK := Lib.hid hblk
    have HOWN := Lib.hid hown
    have HBEL := Lib.hid hbel
    clear hat st1 st2 hlow1 hlow2 md1 md2 hg1 hg2 hcell hsp hblk hown hbel
    go_wp2_with fail
    refine HFR.out.mono ?_
    rintro e w1 ⟨rfl, hb1⟩
    have hW2 : Below wo.heap.size wo (w1.alloc (.cells #[.int .i64 (low : Int), .int .i64 (mid : Int), .int .i64 (hi : Int)] 135)) := newB hb1 _
    have HBK2 := Lib.hid (HBLK.out.below hW2 HBLK.out.lt)
    have HO2 := Lib.hid (Own.below HOWN.out hW2)
    have HBW := Lib.hid (nextB HBEL.out hW2)
    have HBX2 := Lib.hid (Blk.new w1 135 #[.int .i64 (low : Int), .int .i64 (mid : Int), .int .i64 (hi : Int)])
    have HS1 := Lib.hid hb1.size
    have HXA : Hid (blockOf A ≠ some w1.heap.size) := Lib.hid (fun e => by
      have := (Own.block (show Own wo w.heap.size 135 3 A T.length c (scs T) from HOWN.out) e).2
      have := hb1.size
      omega)
    clear hb1 hW2
    go_upto_region 6 with (fail)
    generalize w1.alloc (.cells #[.int .i64 (low : Int), .int .i64 (mid : Int), .int .i64 (hi : Int)] 135) = W2 at *
    generalize w1.heap.size = gx at *
    have c1 : W2.cell? ⟨w.heap.size, 1, none⟩ = some (.slice A T.length c) := by rw [HBK2.out.cell]; rfl
    have x0 : W2.cell? ⟨gx, 0, none⟩ = some (.int .i64 (low : Int)) := by rw [HBX2.out.cell]; rfl
    have x1 : W2.cell? ⟨gx, 1, none⟩ = some (.int .i64 (mid : Int)) := by rw [HBX2.out.cell]; rfl
    have x2 : W2.cell? ⟨gx, 2, none⟩ = some (.int .i64 (hi : Int)) := by rw [HBX2.out.cell]; rfl
    have hgl : w.heap.size < W2.heap.size := HBK2.out.lt
    have hxl : gx < W2.heap.size := HBX2.out.lt
    have hne : ¬ gx = w.heap.size := fun e => Blk.ne HBX2.out HBK2.out (by decide) e
    have hne2 : ¬ w.heap.size = gx := fun e => hne e.symm
    refine wp_region_noPanic ?_
    refine wp_region_T (S := (fun W => W.cell? ⟨w.heap.size, 1, none⟩ = some (.slice A T.length c) ∧ W.cell? ⟨gx, 0, none⟩ = some (.int .i64 (low : Int)) ∧ W.cell? ⟨gx, 1, none⟩ = some (.int .i64 (mid : Int)) ∧ W.cell? ⟨gx, 2, none⟩ = some (.int .i64 (hi : Int)))) (L := 10) (by kernel_rfl) ⟨by simpa using c1, by simpa using x0, by simpa using x1, by simpa using x2⟩ (fun hHeld => ?_)
    refine wpAnyT_take (i := 0) (oi := ?_) (v := ?_) ?_ ?_ ?_ ?_ ?_ ?_ ?_ ?_ ?_
    rotate_left 2
    · simp only [List.getElem?_toArray, List.getElem?_cons_zero]; rfl
    · kernel_rfl
    · kernel_rfl
    · kernel_rfl
    · kernel_rfl
    · exact fun _ _ _ h => h
    · exact Or.inl ⟨by kernel_rfl, by intro w hSw; (try dsimp only at hSw); go_simp; try with_reducible rfl⟩
    · assumption
    try go_simp
    refine wpAnyT_take (i := 1) (oi := ?_) (v := ?_) ?_ ?_ ?_ ?_ ?_ ?_ ?_ ?_ ?_
    rotate_left 2
    · simp only [List.getElem?_toArray, List.getElem?_cons_succ, List.getElem?_cons_zero]; rfl
    · kernel_rfl
    · kernel_rfl
    · kernel_rfl
    · kernel_rfl
    · exact fun _ _ _ h => h
    · exact Or.inl ⟨by kernel_rfl, by intro w hSw; (try dsimp only at hSw); go_simp; try with_reducible rfl⟩
    · assumption
    try go_simp
    refine wpAnyT_take (i := 2) (oi := ?_) (v := ?_) ?_ ?_ ?_ ?_ ?_ ?_ ?_ ?_ ?_
    rotate_left 2
    · simp only [List.getElem?_toArray, List.getElem?_cons_succ, List.getElem?_cons_zero]; rfl
    · kernel_rfl
    · kernel_rfl
    · kernel_rfl
    · kernel_rfl
    · exact fun _ _ _ h => h
    · exact Or.inl ⟨by kernel_rfl, by intro w hSw; (try dsimp only at hSw); go_simp; try with_reducible rfl⟩
    · assumption
    try go_simp
    refine wpAnyT_take (i := 3) (oi := ?_) (v := ?_) ?_ ?_ ?_ ?_ ?_ ?_ ?_ ?_ ?_
    rotate_left 2
    · simp only [List.getElem?_toArray, List.getElem?_cons_succ, List.getElem?_cons_zero]; rfl
    · kernel_rfl
    · kernel_rfl
    · kernel_rfl
    · kernel_rfl
    · exact fun _ _ _ h => h
    · exact Or.inl ⟨by kernel_rfl, by intro w hSw; (try dsimp only at hSw); go_simp; try with_reducible rfl⟩
    · assumption
    try go_simp
    refine wpAnyT_take (i := 4) (oi := ?_) (v := ?_) ?_ ?_ ?_ ?_ ?_ ?_ ?_ ?_ ?_
    rotate_left 2
    · simp only [List.getElem?_toArray, List.getElem?_cons_succ, List.getElem?_cons_zero]; rfl
    · kernel_rfl
    · kernel_rfl
    · kernel_rfl
    · kernel_rfl
    · exact fun _ _ _ h => h
    · exact Or.inl ⟨by kernel_rfl, by intro w hSw; (try dsimp only at hSw); go_simp; try with_reducible rfl⟩
    · assumption
    try go_simp
    refine wpAnyT_take (i := 5) (oi := ?_) (v := ?_) ?_ ?_ ?_ ?_ ?_ ?_ ?_ ?_ ?_
    rotate_left 2
    · simp only [List.getElem?_toArray, List.getElem?_cons_succ, List.getElem?_cons_zero]; rfl
    · kernel_rfl
    · kernel_rfl
    · kernel_rfl
    · kernel_rfl
    · exact fun _ _ _ h => h
    · exact Or.inl ⟨by kernel_rfl, by intro w hSw; (try dsimp only at hSw); go_simp; try with_reducible rfl⟩
    · assumption
    try go_simp
    refine wpAnyT_one (i := 6) (o := ?_) ?_ ?_ ?_
    rotate_left 1
    · simp only [List.getElem?_toArray, List.getElem?_cons_succ, List.getElem?_cons_zero]; rfl
    · kernel_rfl
    intro K hK
    go_simp
    refine hK.out _ _ ?_ (fun hHeld => ?_)
    · exact fun _ => ⟨by simpa using (World.cell?_alloc_lt W2 _ ⟨w.heap.size, 1, none⟩ hgl).trans c1, by simpa using (World.cell?_alloc_lt W2 _ ⟨gx, 0, none⟩ hxl).trans x0, by simpa using (World.cell?_alloc_lt W2 _ ⟨gx, 1, none⟩ hxl).trans x1, by simpa using (World.cell?_alloc_lt W2 _ ⟨gx, 2, none⟩ hxl).trans x2⟩
    clear hK K
    replace hHeld := hHeld (by decide)
    try go_simp
    refine wpAnyT_one (i := 7) (o := ?_) ?_ ?_ ?_
    rotate_left 1
    · simp only [List.getElem?_toArray, List.getElem?_cons_succ, List.getElem?_cons_zero]; rfl
    · kernel_rfl
    intro K hK
    refine step_app (s := .tmp 23) (x := .tmp 25) (t := 125) (base := w.heap.size) (A := A) (n := T.length) (c := c) (xs := scs T) (B := (W2.alloc (.cells #[.int .i64 (low : Int), .int .i64 (mid : Int), .int .i64 (hi : Int)] 135)).heap.size) (D := some ⟨W2.heap.size, 0, none⟩) (m := 1) (c2 := 1) (news := scs [(low, mid, hi)]) (by rfl) (by rfl) elem_span (by rfl) (Own.alloc HO2.out (.cells #[.int .i64 (low : Int), .int .i64 (mid : Int), .int .i64 (hi : Int)] 135)) (by rfl) (span_new W2 (low, mid, hi)) (scs_one _) (T.length + 1) rfl (scs (T ++ [(low, mid, hi)])) (scs_append _ _).symm (by unfold maxLen; omega) (by omega) (by have := HBW.out.size; simp; omega) ?_
    intro A3 c3 w3 o3 g3 q3
    have hbk3 := (HBK2.out.alloc (.cells #[.int .i64 (low : Int), .int .i64 (mid : Int), .int .i64 (hi : Int)] 135)).drew.grown g3 (fun e => Own.ne_blk HO2.out HBK2.out (by decide) e.symm)
    have hbx3 := (HBX2.out.alloc (.cells #[.int .i64 (low : Int), .int .i64 (mid : Int), .int .i64 (hi : Int)] 135)).drew.grown g3 (fun e => HXA.out e.symm)
    have hB3 := appB (newB HBW.out (.cells #[.int .i64 (low : Int), .int .i64 (mid : Int), .int .i64 (hi : Int)] 135)).drew (Own.alloc HO2.out (.cells #[.int .i64 (low : Int), .int .i64 (mid : Int), .int .i64 (hi : Int)] 135)).drew g3 (Nat.le_refl _) (newB HBW.out (.cells #[.int .i64 (low : Int), .int .i64 (mid : Int), .int .i64 (hi : Int)] 135)).size
    have y1 : w3.cell? ⟨w.heap.size, 1, none⟩ = some (.slice A T.length c) := by rw [hbk3.cell]; rfl
    have y2 : w3.cell? ⟨gx, 0, none⟩ = some (.int .i64 (low : Int)) := by rw [hbx3.cell]; rfl
    have y3 : w3.cell? ⟨gx, 1, none⟩ = some (.int .i64 (mid : Int)) := by rw [hbx3.cell]; rfl
    have y4 : w3.cell? ⟨gx, 2, none⟩ = some (.int .i64 (hi : Int)) := by rw [hbx3.cell]; rfl
    have yf : w3.frozen? ⟨w.heap.size, 1, none⟩ = false := hbk3.free 1
    have HB3 := Lib.hid hB3
    have HO3 := Lib.hid o3
    have HBK3 := Lib.hid hbk3
    clear o3 g3 q3 hB3 hbk3 hbx3 c1 x0 x1 x2
    refine hK.out _ _ ?_ (fun hHeld => ?_)
    · exact fun _ => ⟨y1, y2, y3, y4⟩
    clear hK K
    replace hHeld := hHeld (by decide)
    try go_simp
    refine wpAnyT_take (i := 8) (oi := ?_) (v := ?_) ?_ ?_ ?_ ?_ ?_ ?_ ?_ ?_ ?_
    rotate_left 2
    · simp only [List.getElem?_toArray, List.getElem?_cons_succ, List.getElem?_cons_zero]; rfl
    · kernel_rfl
    · kernel_rfl
    · kernel_rfl
    · kernel_rfl
    · exact fun _ _ _ h => h
    · exact Or.inl ⟨by kernel_rfl, by intro w hSw; (try dsimp only at hSw); go_simp; try with_reducible rfl⟩
    · assumption
    try go_simp
    refine wpAnyT_take (i := 9) (oi := ?_) (v := ?_) ?_ ?_ ?_ ?_ ?_ ?_ ?_ ?_ ?_
    rotate_left 2
    · simp only [List.getElem?_toArray, List.getElem?_cons_succ, List.getElem?_cons_zero]; rfl
    · kernel_rfl
    · kernel_rfl
    · kernel_rfl
    · kernel_rfl
    · exact fun _ _ _ h => h
    · exact Or.inl ⟨by kernel_rfl, by intro w hSw; (try dsimp only at hSw); go_simp; try with_reducible rfl⟩
    · assumption
    try go_simp
    refine wpAnyT_one (i := 10) (o := ?_) ?_ ?_ ?_
    rotate_left 1
    · simp only [List.getElem?_toArray, List.getElem?_cons_succ, List.getElem?_cons_zero]; rfl
    · kernel_rfl
    intro K hK
    go_simp
    refine hK.out _ _ ?_ (fun hHeld => ?_)
    · exact fun h => absurd rfl h
    clear hK K
    try go_simp
    refine wpAnyT_done (by kernel_rfl) ?_ _
    refine NoPanic.normal ?_
    have hw4 : ∀ (W4 : World), W4 = w3.setCell ⟨w.heap.size, 1, none⟩ (.slice A3 (T.length + 1) c3) → Blk W4 w.heap.size 127 #[.int .i64 (a : Int), .slice A3 (T.length + 1) c3] ∧ OwnS W4 w.heap.size A3 c3 (T ++ [(low, mid, hi)]) ∧ Below w.heap.size w W4 := fun W4 hW => by
      subst hW
      refine ⟨?_, ?_, HB3.out.setCell (Nat.le_refl _) _⟩
      · have h := HBK3.out.put 1 (.slice A3 (T.length + 1) c3)
        simpa using h
      · have h := Own.setOther HO3.out (p := ⟨w.heap.size, 1, none⟩) (Own.ne_blk HO3.out HBK3.out (by decide)) (.slice A3 (T.length + 1) c3)
        unfold OwnS
        rw [List.length_append]
        exact h
    have HW4 := Lib.hid hw4
    clear hw4
    by_cases hend : hi = 9223372036854775807
    · have k1 : ((hi : Int) == 9223372036854775807) = true := by simp; omega
      have HSP := Lib.hid (HST1.out hend)
      clear hend
      go_wp2_with fail
      go_ret2
      obtain ⟨h1, h2, h3⟩ := HW4.out _ rfl
      refine ⟨w.heap.size, A3, c3, rfl, Nat.le_refl _, ?_, h3⟩
      rw [HSP.out]
      exact ⟨by rw [List.length_append]; exact h1, h2⟩
    · have k1 : ((hi : Int) == 9223372036854775807) = false := by simp; omega
      have k2 : (hi : Int) < 9223372036854775807 := by omega
      have HAT := Lib.hid (HST2.out hend)
      clear hend
      go_wp2_with fail
      go_roundw
      case rel =>
        obtain ⟨h1, h2, h3⟩ := HW4.out _ rfl
        exact ⟨T ++ [(low, mid, hi)], hi + 1, f - 1, A3, c3, by go_num, HAT.out, by rw [List.length_append]; exact h1, h2, h3⟩
      case measure => have := HLH.out; have := HAT.out.low2; simp [intOf]; omega
end Go.Proofs.YtbfhiegbgkkgiaaGreat
/- Ranges of whole numbers: what a scale tells of keys, and of numbers, walked. -/

namespace Go.Proofs.YtbfhiegbgkkgiaaGreat
open Go.RowKit
open Sc
theorem acc_t (g c a : Nat) (A : Option Addr) (T : List Span) (w : World) (h : Scl w g A c a T) : Calls Tryz.prog 39 #[.pointer (some ⟨g, 0, none⟩)] w fun e w' => e = .returned (.int .i64 (a : Int)) ∧ w = w' := by
  have c0 : w.cell? ⟨g, 0, none⟩ = some (.int .i64 (a : Int)) := by rw [h.blk.cell]; rfl
  clear h
  go_enter Tryz.func39, Tryz.ntmps39
  go_wp2_with fail
  go_ret
  exact ⟨rfl, rfl⟩
theorem middle_t (s : Span) (w : World) : Calls Tryz.prog 85 #[spV s] w fun e w' => e = .returned (.int .i64 (s.2.1 : Int)) ∧ Below w.heap.size w w' := by
  obtain ⟨x, y, z⟩ := s
  unfold spV
  dsimp only
  go_enter Tryz.func85, Tryz.ntmps85
  go_wp2_with fail
  go_ret
  exact ⟨rfl, (Below.refl _ _).alloc (Nat.le_refl _) _⟩
theorem scs_at {T : List Span} {i : Nat} {s : Span} (h : T[i]? = some s) : (scs T)[i * 3]? = some (.int .i64 (s.1 : Int)) ∧ (scs T)[i * 3 + 1]? = some (.int .i64 (s.2.1 : Int)) ∧ (scs T)[i * 3 + 2]? = some (.int .i64 (s.2.2 : Int)) := by
  induction T generalizing i with
  | nil => simp at h
  | cons p T ih =>
    cases i with
    | zero => simp at h; subst h; exact ⟨rfl, rfl, rfl⟩
    | succ i =>
      have h2 := ih (i := i) (by simpa using h)
      rw [show (i + 1) * 3 = i * 3 + 3 by omega]
      exact h2
theorem Scl.at_ {w : World} {g c a : Nat} {A : Option Addr} {T : List Span} (h : Scl w g A c a T) {i : Nat} {s : Span} (hs : T[i]? = some s) : ∃ b, A = some ⟨b, 0, none⟩ ∧ b < w.heap.size ∧ w.cell? ⟨b, i * 3, none⟩ = some (.int .i64 (s.1 : Int)) ∧ w.cell? ⟨b, i * 3 + 1, none⟩ = some (.int .i64 (s.2.1 : Int)) ∧ w.cell? ⟨b, i * 3 + 2, none⟩ = some (.int .i64 (s.2.2 : Int)) := by
  have hi : 0 < T.length := by have := (List.getElem?_eq_some_iff.1 hs).1; omega
  obtain ⟨b, hA, hb, hl, _, hcl, _⟩ := Own.form (show Own w g 135 3 A T.length c (scs T) from h.own) hi
  obtain ⟨k1, k2, k3⟩ := scs_at hs
  exact ⟨b, hA, (by first | exact hl | exact hb), hcl _ _ k1, hcl _ _ k2, hcl _ _ k3⟩
set_option maxHeartbeats 1600000 in
theorem mid_no (g c a : Nat) (A : Option Addr) (T : List Span) (k : Int) (w : World) (h : Scl w g A c a T) (hT : T.length ≤ 100000) (hk : (T.length : Int) < k ∨ k < -(T.length : Int)) :
    Calls Tryz.prog 62 #[.pointer (some ⟨g, 0, none⟩), .int .i64 k] w fun e w' => e = .returned (.tuple #[.int .i64 0, .int .i64 1]) ∧ w = w' := by
  have c1 : w.cell? ⟨g, 1, none⟩ = some (.slice A T.length c) := by rw [h.blk.cell]; rfl
  have hTl : (T.length : Int) ≤ 100000 := by omega
  have hc : decide ((T.length : Int) < k) = true ∨ decide ((T.length : Int) < k) = false ∧ decide (k < -(T.length : Int)) = true := by
    rcases hk with h1 | h1
    · exact .inl (by simp; omega)
    · exact .inr ⟨by simp; omega, by simp; omega⟩
  clear h hT hk
  generalize T.length = n at *
  rcases hc with x1 | ⟨x1, x2⟩
  all_goals
    go_enter Tryz.func62, Tryz.ntmps62
    go_wp2
    go_wp2
    go_ret2
    exact ⟨rfl, rfl⟩
theorem mid_zero (g c a : Nat) (A : Option Addr) (T : List Span) (w : World) (h : Scl w g A c a T) (hT : T.length ≤ 100000) :
    Calls Tryz.prog 62 #[.pointer (some ⟨g, 0, none⟩), .int .i64 0] w fun e w' => e = .returned (.tuple #[.int .i64 0, .int .i64 0]) ∧ Below w.heap.size w w' := by
  have c1 : w.cell? ⟨g, 1, none⟩ = some (.slice A T.length c) := by rw [h.blk.cell]; rfl
  have hTl : (T.length : Int) ≤ 100000 := by omega
  have x1 : decide ((T.length : Int) < 0) = false := by simp
  have x2 : decide (0 < -(T.length : Int)) = false := by simp
  clear h hT
  generalize T.length = n at *
  go_enter Tryz.func62, Tryz.ntmps62
  go_wp2
  go_wp2
  go_ret2
  exact ⟨rfl, Below.refl _ _⟩
set_option maxHeartbeats 1600000 in
theorem mid_pos (g c a : Nat) (A : Option Addr) (T : List Span) (i : Nat) (s : Span) (w : World) (h : Scl w g A c a T) (hT : T.length ≤ 100000) (hs : T[i]? = some s) (k : Int) (hk : k = (i : Int) + 1) :
    Calls Tryz.prog 62 #[.pointer (some ⟨g, 0, none⟩), .int .i64 k] w fun e w' => e = .returned (.tuple #[.int .i64 (s.2.1 : Int), .int .i64 0]) ∧ Below w.heap.size w w' := by
  have c1 : w.cell? ⟨g, 1, none⟩ = some (.slice A T.length c) := by rw [h.blk.cell]; rfl
  obtain ⟨b, rfl, hb, d0, d1, d2⟩ := h.at_ hs
  have hi : i < T.length := (List.getElem?_eq_some_iff.1 hs).1
  have hTl : (T.length : Int) ≤ 100000 := by omega
  have x1 : decide ((T.length : Int) < k) = false := by simp; omega
  have x2 : decide (k < -(T.length : Int)) = false := by simp; omega
  have x3 : decide (0 < k) = true := by simp; omega
  have x4 : k - 1 = (i : Int) := by omega
  have x5 : (i : Int) < (T.length : Int) := by omega
  have x6 : 1 ≤ k := by omega
  have x7 : k ≤ 100000 := by omega
  have HMI := Lib.hid (fun W => middle_t s W)
  obtain ⟨lo, md, hh⟩ := s
  unfold spV at HMI
  dsimp only at *
  clear h hT hs hi hk
  generalize T.length = n at *
  go_enter Tryz.func62, Tryz.ntmps62
  go_wp2
  go_ret2
  exact ⟨rfl, (Below.refl _ _).alloc (Nat.le_refl _) _⟩
set_option maxHeartbeats 1600000 in
theorem mid_neg (g c a : Nat) (A : Option Addr) (T : List Span) (i : Nat) (s : Span) (w : World) (h : Scl w g A c a T) (hT : T.length ≤ 100000) (hs : T[i]? = some s) (hmx : s.2.1 ≤ 9223372036854775807) (k : Int) (hk : k = -((i : Int) + 1)) :
    Calls Tryz.prog 62 #[.pointer (some ⟨g, 0, none⟩), .int .i64 k] w fun e w' => e = .returned (.tuple #[.int .i64 (-(s.2.1 : Int)), .int .i64 0]) ∧ Below w.heap.size w w' := by
  have c1 : w.cell? ⟨g, 1, none⟩ = some (.slice A T.length c) := by rw [h.blk.cell]; rfl
  obtain ⟨b, rfl, hb, d0, d1, d2⟩ := h.at_ hs
  have hi : i < T.length := (List.getElem?_eq_some_iff.1 hs).1
  have hTl : (T.length : Int) ≤ 100000 := by omega
  have x1 : decide ((T.length : Int) < k) = false := by simp; omega
  have x2 : decide (k < -(T.length : Int)) = false := by simp; omega
  have x3 : decide (0 < k) = false := by simp; omega
  have x3b : decide (k < 0) = true := by simp; omega
  have x4a : -k = (i : Int) + 1 := by omega
  have x4 : (i : Int) + 1 - 1 = (i : Int) := by omega
  have x4b : -k - 1 = (i : Int) := by omega
  have x8 : (s.2.1 : Int) ≤ 9223372036854775807 := by omega
  have x5 : (i : Int) < (T.length : Int) := by omega
  have x6 : k ≤ -1 := by omega
  have x7 : -100000 ≤ k := by omega
  have HMI := Lib.hid (fun W => middle_t s W)
  obtain ⟨lo, md, hh⟩ := s
  unfold spV at HMI
  dsimp only at *
  clear h hT hs hi hk
  generalize T.length = n at *
  go_enter Tryz.func62, Tryz.ntmps62
  go_wp2
  go_ret2
  exact ⟨rfl, (Below.refl _ _).alloc (Nat.le_refl _) _⟩
end Go.Proofs.YtbfhiegbgkkgiaaGreat
/- Ranges of whole numbers: the key of a number, walked. -/

namespace Go.Proofs.YtbfhiegbgkkgiaaGreat
open Go.RowKit
open Sc
namespace Sc
theorem spansF_facts (a : Nat) (ha0 : 100 ≤ a) (ha : a ≤ 5000) : ∀ (f low : Nat), low ≤ 9223372036854775807 → (∀ s ∈ spansF a f low, low ≤ s.2.2 ∧ s.1 ≤ s.2.1 ∧ s.2.1 ≤ s.2.2 ∧ s.2.2 ≤ 9223372036854775807) ∧ (spansF a f low).Pairwise (fun s t => s.2.2 < t.1 ∧ s.2.2 < t.2.2)
  | 0, _, _ => ⟨(fun s hs => by cases hs), List.Pairwise.nil⟩
  | f + 1, low, hl => by
    obtain ⟨m1, m2⟩ := mid_le (a := a) hl
    obtain ⟨h1, h2⟩ := high_le ha m2
    have hs : spanOf a low = (low, midOf a low, highOf a (midOf a low)) := rfl
    unfold spansF
    by_cases he : (spanOf a low).2.2 = 9223372036854775807
    · rw [if_pos he]
      refine ⟨fun s hm => ?_, List.pairwise_singleton _ _⟩
      obtain rfl : s = spanOf a low := by simpa using hm
      rw [hs]
      dsimp only
      omega
    · rw [if_neg he]
      obtain ⟨g1, g2, _⟩ := span_grows ha0 ha hl he
      obtain ⟨i1, i2⟩ := spansF_facts a ha0 ha f ((spanOf a low).2.2 + 1) g2
      obtain ⟨j1, j2⟩ := spansF_first a f ((spanOf a low).2.2 + 1)
      refine ⟨fun s hm => ?_, List.pairwise_cons.2 ⟨fun t ht => ?_, i2⟩⟩
      · rcases List.mem_cons.1 hm with rfl | hm
        · rw [hs]; dsimp only; omega
        · have := i1 s hm; omega
      · have := i1 t ht
        have := spansF_low a ha0 ha f _ g2 t ht
        omega
where
  spansF_first (a f low : Nat) : True ∧ True := ⟨trivial, trivial⟩
  spansF_low (a : Nat) (ha0 : 100 ≤ a) (ha : a ≤ 5000) : ∀ (f low : Nat), low ≤ 9223372036854775807 → ∀ s ∈ spansF a f low, low ≤ s.1
  | 0, _, _ => (fun s hs => by cases hs)
  | f + 1, low, hl => by
    unfold spansF
    by_cases he : (spanOf a low).2.2 = 9223372036854775807
    · rw [if_pos he]
      intro s hm
      obtain rfl : s = spanOf a low := by simpa using hm
      exact Nat.le_refl _
    · rw [if_neg he]
      obtain ⟨g1, g2, _⟩ := span_grows ha0 ha hl he
      intro s hm
      rcases List.mem_cons.1 hm with rfl | hm
      · exact Nat.le_refl _
      · have := spansF_low a ha0 ha f _ g2 s hm; omega
theorem spansF_len (a : Nat) : ∀ (f low : Nat), (spansF a f low).length ≤ f
  | 0, _ => Nat.le_refl _
  | f + 1, low => by
    unfold spansF
    split
    · simp
    · rw [List.length_cons]; have := spansF_len a f ((spanOf a low).2.2 + 1); omega
theorem spans_len' (a : Nat) : (spans a).length ≤ 4410 := spansF_len a 4410 1
/-- How many ranges end before a number. -/
def ix (T : List Span) (v : Nat) : Nat := T.countP (fun s => decide (s.2.2 < v))
def Sorted (T : List Span) : Prop := T.Pairwise (fun s t => s.2.2 < t.1 ∧ s.2.2 < t.2.2)
theorem ix_le (T : List Span) (v : Nat) : ix T v ≤ T.length := List.countP_le_length
theorem ix_iff {T : List Span} (hs : Sorted T) {v : Nat} : ∀ {i : Nat} {s : Span}, T[i]? = some s → (s.2.2 < v ↔ i < ix T v) := by
  induction T with
  | nil => intro i s h; simp at h
  | cons q L ih =>
    intro i s h
    obtain ⟨h1, h2⟩ := List.pairwise_cons.1 hs
    have e : ix (q :: L) v = ix L v + if q.2.2 < v then 1 else 0 := by
      unfold ix
      rw [List.countP_cons]
      by_cases h : q.2.2 < v <;> simp [h]
    have hz : ¬ q.2.2 < v → ix L v = 0 := fun hn => by
      unfold ix
      rw [List.countP_eq_zero]
      intro r hr
      have := (h1 r hr).2
      simp
      omega
    rw [e]
    cases i with
    | zero =>
      simp at h
      subst h
      by_cases hk : q.2.2 < v
      · rw [if_pos hk]; omega
      · rw [if_neg hk, hz hk]; omega
    | succ i =>
      have h3 := ih h2 (i := i) (s := s) (by simpa using h)
      have h4 := (h1 s (List.mem_of_getElem? (by simpa using h))).2
      by_cases hk : q.2.2 < v
      · rw [if_pos hk]; omega
      · rw [if_neg hk, hz hk]; omega
theorem spans_sorted {a : Nat} (ha0 : 100 ≤ a) (ha : a ≤ 5000) : Sorted (spans a) := (spansF_facts a ha0 ha 4410 1 (by decide)).2
theorem spans_facts {a : Nat} (ha0 : 100 ≤ a) (ha : a ≤ 5000) : ∀ s ∈ spans a, s.1 ≤ s.2.1 ∧ s.2.1 ≤ s.2.2 ∧ s.2.2 ≤ 9223372036854775807 := fun s hs => ((spansF_facts a ha0 ha 4410 1 (by decide)).1 s hs).2
end Sc
set_option maxHeartbeats 800000 in
theorem key1_t (g c a p : Nat) (A : Option Addr) (T : List Span) (i v : Nat) (s : Span) (w : World) (h : Scl w g A c a T) (hT : T.length ≤ 100000) (hs : T[i]? = some s) (p0 : Blk w p 78 #[.pointer (some ⟨g, 0, none⟩)]) (p1 : Blk w (p + 1) 2 #[.int .i64 (v : Int)]) :
    Calls Tryz.prog 74 #[.int .i64 (i : Int), .pointer (some ⟨p, 0, none⟩), .pointer (some ⟨p + 1, 0, none⟩)] w fun e w' => e = .returned (.bool (decide (v ≤ s.2.2))) ∧ ∃ n, w' = w.drewN n := by
  have c1 : w.cell? ⟨g, 1, none⟩ = some (.slice A T.length c) := by rw [h.blk.cell]; rfl
  obtain ⟨b, rfl, hb, d0, d1, d2⟩ := h.at_ hs
  have hi : i < T.length := (List.getElem?_eq_some_iff.1 hs).1
  have k0 : w.cell? ⟨p, 0, none⟩ = some (.pointer (some ⟨g, 0, none⟩)) := by rw [p0.cell]; rfl
  have k1 : w.cell? ⟨p + 1, 0, none⟩ = some (.int .i64 (v : Int)) := by rw [p1.cell]; rfl
  have hTl : (T.length : Int) ≤ 100000 := by omega
  have x5 : (i : Int) < (T.length : Int) := by omega
  have x5b : decide (i < T.length) = true := by simp; omega
  have x6 : (0 : Int) ≤ (i : Int) := by omega
  obtain ⟨lo, md, hh⟩ := s
  dsimp only at *
  clear h hT hs hi p0 p1
  generalize T.length = n at *
  go_enter Tryz.func74, Tryz.ntmps74
  go_wp2_with fail
  go_quiet (fail)
  go_wp2_with fail
  go_ret
  exact ⟨rfl, _, rfl⟩
set_option maxHeartbeats 1600000 in
theorem search_t (g c a p : Nat) (A : Option Addr) (T : List Span) (v : Nat) (w : World) (h : Scl w g A c a T) (hT : T.length ≤ 100000) (hs : Sorted T) (p0 : Blk w p 78 #[.pointer (some ⟨g, 0, none⟩)]) (p1 : Blk w (p + 1) 2 #[.int .i64 (v : Int)]) :
    Calls Tryz.prog 73 #[.int .i64 (T.length : Int), .func (Fn.func 74) #[] #[.pointer (some ⟨p, 0, none⟩), .pointer (some ⟨p + 1, 0, none⟩)]] w fun e w' => e = .returned (.int .i64 (ix T v : Nat)) ∧ ∃ n, w' = w.drewN n := by
  obtain ⟨q, hq⟩ : ∃ q, q = ix T v := ⟨_, rfl⟩
  have hle := ix_le T v
  have hix := fun i s hp => ix_iff hs (v := v) (i := i) (s := s) hp
  rw [← hq] at hle hix ⊢
  have HK := Lib.hid (fun (i : Nat) (s : Span) (hp : T[i]? = some s) (n : Nat) => key1_t g c a p A T i v s (w.drewN n) ⟨h.blk.drewN n, h.own⟩ hT hp (p0.drewN n) (p1.drewN n))
  have HIX := Lib.hid hix
  have HLE := Lib.hid hle
  have hTl : (T.length : Int) ≤ 100000 := by omega
  clear h hs p0 p1 hq hle hix
  go_enter Tryz.func73, Tryz.ntmps73
  go_wp2_with fail
  go_loopw [5, 6] (fun u x wr => ∃ i j n : Nat, u = .int .i64 (i : Int) ∧ x = .int .i64 (j : Int) ∧ i ≤ q ∧ q ≤ j ∧ j ≤ T.length ∧ wr = w.drewN n) (fun u x _ => (intOf x).toNat - (intOf u).toNat)
  case atStart => exact ⟨0, T.length, 0, rfl, rfl, Nat.zero_le _, HLE.out, Nat.le_refl _, rfl⟩
  case round =>
    obtain ⟨i, j, n, rfl, rfl, hi, hj, hjl, rfl⟩ := hrel
    by_cases hlt : i < j
    · obtain ⟨m, hm⟩ : ∃ m, m = (i + j) / 2 := ⟨_, rfl⟩
      have hmi : ((i : Int) + (j : Int)) / 2 = (m : Int) := by omega
      have hij : (i : Int) < (j : Int) := by omega
      have hij2 : decide (i < j) = true := by simp; omega
      have hjj : (j : Int) ≤ 100000 := by omega
      have hm1 : i ≤ m := by omega
      have hm2 : m < j := by omega
      obtain ⟨s, hp⟩ : ∃ s, T[m]? = some s := ⟨_, List.getElem?_eq_getElem (by omega)⟩
      have hx := HIX.out m s hp
      have HC := Lib.hid (HK.out m s hp n)
      have HI := Lib.hid (And.intro hi (And.intro hj (And.intro hjl (And.intro hm1 hm2))))
      have HMI := Lib.hid (show (m : Int) ≤ 100000 by omega)
      obtain ⟨wo, hwo⟩ : ∃ wo, wo = w.drewN n := ⟨_, rfl⟩
      rw [← hwo] at HC ⊢
      have HWO := Lib.hid hwo
      by_cases hneg : v ≤ s.2.2
      · have hB : decide (v ≤ s.2.2) = true := by simpa using hneg
        rw [hB] at HC
        have HX := Lib.hid (show q ≤ m by
          rcases Nat.lt_or_ge m q with h | h
          · have := hx.2 h; omega
          · exact h)
        clear hp hx hi hj hjl hm hm1 hm2 hwo hneg hB
        go_wp2_with fail
        refine HC.out.mono ?_
        rintro e w1 ⟨rfl, n1, rfl⟩
        go_wp2_with fail
        go_roundw
        case rel => exact ⟨i, m, n + n1, rfl, rfl, HI.out.1, HX.out, by have := HI.out; omega, by rw [HWO.out, World.drewN_drewN]⟩
        case measure => have := HI.out; simp [intOf]; omega
      · have hB : decide (v ≤ s.2.2) = false := by simpa using hneg
        rw [hB] at HC
        have HX := Lib.hid (show m < q from hx.1 (by omega))
        clear hp hx hi hj hjl hm hm1 hm2 hwo hneg hB
        go_wp2_with fail
        refine HC.out.mono ?_
        rintro e w1 ⟨rfl, n1, rfl⟩
        go_wp2_with fail
        go_roundw
        case rel => exact ⟨m + 1, j, n + n1, by go_num, rfl, HX.out, HI.out.2.1, HI.out.2.2.1, by rw [HWO.out, World.drewN_drewN]⟩
        case measure => have := HI.out; simp [intOf]; omega
    · obtain rfl : i = q := by omega
      have hij : ¬ (i : Int) < (j : Int) := by omega
      have hij2 : decide (i < j) = false := by simp; omega
      clear hi hj hjl hlt
      go_wp2_with fail
      go_ret
      exact ⟨rfl, _, rfl⟩
set_option maxHeartbeats 1600000 in
theorem skey_t (g c a : Nat) (A : Option Addr) (T : List Span) (v : Nat) (w : World) (h : Scl w g A c a T) (hT : T.length ≤ 100000) (hs : Sorted T) (hv0 : 1 ≤ v) (hv1 : v ≤ 9223372036854775807) :
    Calls Tryz.prog 53 #[.pointer (some ⟨g, 0, none⟩), .int .i64 (v : Int)] w fun e w' => e = .returned (.tuple #[.int .i64 ((1 + ix T v : Nat) : Int), .int .i64 0]) ∧ Below w.heap.size w w' := by
  have c1 : w.cell? ⟨g, 1, none⟩ = some (.slice A T.length c) := by rw [h.blk.cell]; rfl
  have hg := h.blk.lt
  have hne1 : ¬ g = w.heap.size := by omega
  have hne2 : ¬ g = w.heap.size + 1 := by omega
  have x1 : ((v : Int) == -9223372036854775808) = false := by simp
  have x2 : ((v : Int) == 0) = false := by simp; omega
  have x3 : decide ((v : Int) < 0) = false := by simp
  have hle := ix_le T v
  have hil : ((ix T v : Nat) : Int) ≤ 100000 := by omega
  have HSE := Lib.hid (fun W (h : Scl W g A c a T) p0 p1 => search_t g c a w.heap.size A T v W h hT hs p0 p1)
  have HS := Lib.hid h
  have hres : ((1 + ix T v : Nat) : Int) = 1 + ((ix T v : Nat) : Int) := by omega
  rw [hres]
  generalize ix T v = q at *
  have hv2 : (v : Int) ≤ 9223372036854775807 := by omega
  clear h hT hs hle hres hv0 hv1
  go_enter Tryz.func53, Tryz.ntmps53
  go_wp2_with fail
  have hb3 : Below w.heap.size w ((w.alloc (.cells #[.pointer (some ⟨g, 0, none⟩)] 78)).alloc (.cells #[.int .i64 (v : Int)] 2)) := ((Below.refl _ _).alloc (Nat.le_refl _) _).alloc (by simp) _
  have k0 := (Blk.new w 78 #[.pointer (some ⟨g, 0, none⟩)]).alloc (.cells #[.int .i64 (v : Int)] 2)
  have k1 := Blk.new (w.alloc (.cells #[.pointer (some ⟨g, 0, none⟩)] 78)) 2 #[.int .i64 (v : Int)]
  rw [World.size_alloc] at k1
  refine (HSE.out _ (HS.out.below hb3) k0 k1).mono ?_
  rintro e w1 ⟨rfl, n1, rfl⟩
  have HB := Lib.hid (below_drewN hb3 n1)
  clear hb3 k0 k1
  go_wp2_with fail
  go_ret2
  exact ⟨rfl, HB.out⟩
end Go.Proofs.YtbfhiegbgkkgiaaGreat
/- Sketches: what a sketch is in memory, what it tells, and what is added to it, walked. -/

namespace Go.Proofs.YtbfhiegbgkkgiaaGreat
open Go.RowKit
open Pl
open Sc
theorem Own.blk {w : World} {base : Nat} {e : TypeId} {size : Nat} {A : Option Addr} {n c : Nat} {xs : List Value} (h : Own w base e size A n c xs) {g : Nat} (hg : blockOf A = some g) : ∃ cs, Blk w g e cs := by
  rcases h.2 with ⟨hv, _⟩ | ⟨g', cap, cur, hv, _, hh, _⟩
  · injection hv with hA _ _
    subst hA
    simp [blockOf] at hg
  · injection hv with hA _ _
    subst hA
    have : g' = g := by simpa [blockOf] using hg
    subst this
    exact ⟨cur, hh⟩
/-- Block p is a sketch: its scale is at q, its store at g. -/
structure Skt (w : World) (p q : Nat) (As : Option Addr) (cs a g gl : Nat) (A : Option Addr) (c : Nat) (m : Int) (all : List Pr) : Prop where
  blk : Blk w p 81 #[.pointer (some ⟨q, 0, none⟩), .pointer (some ⟨g, 0, none⟩)]
  scl : Scl w q As cs a (spans a)
  sto : Sto w g gl A c m all
section
variable {w w' : World} {p q cs a g gl c : Nat} {As A : Option Addr} {m : Int} {all : List Pr}
theorem Skt.below (h : Skt w p q As cs a g gl A c m all) (hb : Below w.heap.size w w') : Skt w' p q As cs a g gl A c m all := ⟨h.blk.below hb h.blk.lt, h.scl.below hb, h.sto.below hb⟩
theorem Skt.c0 (h : Skt w p q As cs a g gl A c m all) : w.cell? ⟨p, 0, none⟩ = some (.pointer (some ⟨q, 0, none⟩)) := by rw [h.blk.cell]; rfl
theorem Skt.c1 (h : Skt w p q As cs a g gl A c m all) : w.cell? ⟨p, 1, none⟩ = some (.pointer (some ⟨g, 0, none⟩)) := by rw [h.blk.cell]; rfl
theorem sto_ne_blk {i : Nat} {t : TypeId} {xs : Array Value} (h : Sto w g gl A c m all) (hb : Blk w i t xs) (h0 : t ≠ 130) (h1 : t ≠ 138) (h2 : t ≠ 64) : ¬ SK g gl A i := fun e => by
  rcases e with rfl | rfl | e
  · exact absurd rfl (Blk.ne hb h.blk h0)
  · exact absurd rfl (Blk.ne hb h.lst.1 h1)
  · exact Own.ne_blk (show Own w gl 64 2 A (cutL all m).1.length c (pcs (cutL all m).1) from h.lst.2) hb (fun e => h2 e.symm) e
theorem scl_only {K : Nat → Prop} {T : List Span} (h : Scl w q As cs a T) (k : Only K w w') (h1 : ∀ i t xs, Blk w i t xs → t = 127 ∨ t = 135 → ¬ K i) : Scl w' q As cs a T :=
  ⟨h.blk.only k (h1 _ _ _ h.blk (.inl rfl)), Own.only (show Own w q 135 3 As T.length cs (scs T) from h.own) k (fun i hi => by
    obtain ⟨xs, hx⟩ := Own.blk (show Own w q 135 3 As T.length cs (scs T) from h.own) hi
    exact h1 _ _ _ hx (.inr rfl))⟩
theorem Skt.stored {A' : Option Addr} {c' : Nat} {all' : List Pr} (h : Skt w p q As cs a g gl A c m all) (k : Stored g gl A m all' w w' A' c') : Skt w' p q As cs a g gl A' c' m all' :=
  ⟨h.blk.only k.only (sto_ne_blk h.sto h.blk (by decide) (by decide) (by decide)), scl_only h.scl k.only (fun i t xs hb ht => by
    rcases ht with rfl | rfl
    · exact sto_ne_blk h.sto hb (by decide) (by decide) (by decide)
    · exact sto_ne_blk h.sto hb (by decide) (by decide) (by decide)), k.sto⟩
end
/-- The key of a number that is above zero. -/
def keyOf (a v : Nat) : Int := ((1 + ix (spans a) v : Nat) : Int)
theorem keyOf_fits (a v : Nat) : 1 ≤ keyOf a v ∧ keyOf a v ≤ 4411 := by
  have h1 := ix_le (spans a) v
  have h2 := spans_len' a
  unfold keyOf
  omega
section
variable {p q cs a g gl c : Nat} {As A : Option Addr} {m : Int} {all : List Pr} {w : World} (h : Skt w p q As cs a g gl A c m all)
include h
theorem dacc_t : Calls Tryz.prog 11 #[.pointer (some ⟨p, 0, none⟩)] w fun e w' => e = .returned (.int .i64 (a : Int)) ∧ w = w' := by
  have c0 := h.c0
  have HC := Lib.hid (acc_t q cs a As (spans a) w h.scl)
  clear h
  go_enter Tryz.func11, Tryz.ntmps11
  go_wp2_with fail
  refine HC.out.mono ?_
  rintro e w1 ⟨rfl, rfl⟩
  go_wp2_with fail
  go_ret
  exact ⟨rfl, rfl⟩
theorem dbudget_t : Calls Tryz.prog 12 #[.pointer (some ⟨p, 0, none⟩)] w fun e w' => e = .returned (.int .i64 m) ∧ w = w' := by
  have c1 := h.c1
  have HC := Lib.hid (sbudget_t g gl A c m all w h.sto)
  clear h
  go_enter Tryz.func12, Tryz.ntmps12
  go_wp2_with fail
  refine HC.out.mono ?_
  rintro e w1 ⟨rfl, rfl⟩
  go_wp2_with fail
  go_ret
  exact ⟨rfl, rfl⟩
theorem dfolded_t : Calls Tryz.prog 14 #[.pointer (some ⟨p, 0, none⟩)] w fun e w' => e = .returned (.int .u64 ((cutL all m).2 : Nat)) ∧ w = w' := by
  have c1 := h.c1
  have HC := Lib.hid (sfolded_t g gl A c m all w h.sto)
  clear h
  generalize (cutL all m).2 = f at *
  go_enter Tryz.func14, Tryz.ntmps14
  go_wp2_with fail
  refine HC.out.mono ?_
  rintro e w1 ⟨rfl, rfl⟩
  go_wp2_with fail
  go_ret
  exact ⟨rfl, rfl⟩
theorem dtotal_t (hf : Fine all) : Calls Tryz.prog 23 #[.pointer (some ⟨p, 0, none⟩)] w fun e w' => e = .returned (.int .u64 (tot all : Nat)) ∧ w = w' := by
  have c1 := h.c1
  have HC := Lib.hid (stotal_t g gl A c m all w h.sto hf)
  clear h hf
  generalize tot all = f at *
  go_enter Tryz.func23, Tryz.ntmps23
  go_wp2_with fail
  refine HC.out.mono ?_
  rintro e w1 ⟨rfl, rfl⟩
  go_wp2_with fail
  go_ret
  exact ⟨rfl, rfl⟩
theorem dpairs_t (hf : Fine all) : Calls Tryz.prog 13 #[.pointer (some ⟨p, 0, none⟩)] w (NewPairs (cutL all m).1 w) := by
  have c1 := h.c1
  have HC := Lib.hid (spairs_t g gl A c m all w h.sto hf)
  clear h hf
  generalize (cutL all m).1 = C at *
  go_enter Tryz.func13, Tryz.ntmps13
  go_wp2_with fail
  refine HC.out.mono ?_
  rintro e w1 ⟨A1, c1, rfl, h1, h2⟩
  have H1 := Lib.hid h1
  have H2 := Lib.hid h2
  clear h1 h2
  go_wp2_with fail
  go_ret
  exact ⟨A1, c1, rfl, H1.out, H2.out⟩
theorem dadd_t (v n : Nat) (ha0 : 100 ≤ a) (ha : a ≤ 5000) (hf : Fine all) (hl : all.length < 100000) (hm0 : 2 ≤ m) (hm1 : m ≤ 4097) (hv0 : 1 ≤ v) (hv1 : v ≤ 9223372036854775807) (hn : 1 ≤ n) :
    Calls Tryz.prog 22 #[.pointer (some ⟨p, 0, none⟩), .int .i64 (v : Int), .int .u64 (n : Int)] w fun e w' => e = .returned (.int .i64 (radd all (keyOf a v) n 0).2) ∧ ∃ A' c', Skt w' p q As cs a g gl A' c' m (radd all (keyOf a v) n 0).1 ∧ Stored g gl A m (radd all (keyOf a v) n 0).1 w w' A' c' := by
  have c0 := h.c0
  have c1 := h.c1
  have HK := Lib.hid (skey_t q cs a As (spans a) v w h.scl (by have := spans_len' a; omega) (spans_sorted ha0 ha) hv0 hv1)
  have HAD := Lib.hid (fun W (h : Sto W g gl A c m all) => sadd_t g gl A c m all (keyOf a v) n W h hf hl hm0 hm1)
  have HH := Lib.hid h
  have hp := h.blk.lt
  have x1 : ((n : Int) == 0) = false := by simp; omega
  have x2 : (n == 0) = false := by simp; omega
  have hkk : ((1 + ix (spans a) v : Nat) : Int) = keyOf a v := rfl
  rw [hkk] at HK
  clear h hf hl hm0 hm1 hv0 hv1 hn ha0 ha hkk
  generalize radd all (keyOf a v) n 0 = R at *
  generalize keyOf a v = K at *
  obtain ⟨R1, R2⟩ := R
  dsimp only at *
  go_enter Tryz.func22, Tryz.ntmps22
  go_wp2_with fail
  refine HK.out.mono ?_
  rintro e w1 ⟨rfl, b1⟩
  have H1 := Lib.hid (HH.out.below b1)
  have B1 := Lib.hid b1
  have d1 := H1.out.c1
  clear b1 c0 c1
  go_wp2_with fail
  refine (HAD.out w1 H1.out.sto).mono ?_
  rintro e w2 ⟨rfl, A', c', k⟩
  have HK2 := Lib.hid k
  clear k
  go_wp2_with fail
  go_ret
  have hst : Stored g gl A m R1 w w2 A' c' := ⟨HK2.out.sto, (Only.of_below B1.out).trans (HK2.out.only.step (Only.refl _ _) (fun i hi => .inl hi)), fun x hx => (HK2.out.new x hx).imp id (fun h => Nat.le_trans B1.out.size h)⟩
  exact ⟨rfl, A', c', HH.out.stored hst, hst⟩
end
end Go.Proofs.YtbfhiegbgkkgiaaGreat
