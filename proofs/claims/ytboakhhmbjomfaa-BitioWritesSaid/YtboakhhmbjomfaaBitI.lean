/- Bitio: alive walked. -/
import Derived.Test.YtboakhhmbjomfaaBitH
import Derived.Outline
namespace Go.Proofs.Ytboakhhmbjomfaa
open Go.RowKit
open Bt
theorem Wri.only {K : Nat → Prop} {w w' : World} {g : Nat} {A : Option Addr} {c : Nat} {L : List Bool} (h : Wri w g A c L) (k : Only K w w') (hg : ¬ K g) (hA : ∀ i, blockOf A = some i → ¬ K i) : Wri w' g A c L := ⟨h.1.only k hg, Own.only h.2 k hA⟩
theorem Wri.below {w w' : World} {g : Nat} {A : Option Addr} {c : Nat} {L : List Bool} (h : Wri w g A c L) (hb : Below w.heap.size w w') : Wri w' g A c L := ⟨h.1.below hb h.1.lt, Own.below h.2 hb⟩
theorem Wri.drewN {w : World} {g : Nat} {A : Option Addr} {c : Nat} {L : List Bool} (h : Wri w g A c L) (q : Nat) : Wri (w.drewN q) g A c L := ⟨h.1.drewN q, h.2⟩
theorem Rdr.drewN {w : World} {base g : Nat} {A : Option Addr} {c : Nat} {l : List UInt8} {p : Nat} (h : Rdr w base g A c l p) (q : Nat) : Rdr (w.drewN q) base g A c l p := ⟨h.1.drewN q, h.2⟩
/-- A reader's act leaves a writer as it was. -/
theorem Wri.read {w w' : World} {g gr base : Nat} {A B : Option Addr} {c d p : Nat} {L : List Bool} {l : List UInt8} (h : Wri w g A c L) (hr : Rdr w base gr B d l p) (k : Only (RK gr) w w') : Wri w' g A c L :=
  h.only k (fun e => h.1.ne hr.1 (by decide) e) (fun i hi e => by
    obtain rfl : i = gr := e
    exact Own.ne_blk h.2 hr.1 (by decide) hi)
theorem wri_new (w : World) : Wri (w.alloc (.cells #[.slice none 0 0, .int .i64 0] 27)) w.heap.size none 0 [] := ⟨Blk.new w _ _, Own.nil _ _ _ _⟩
theorem wk_below {w w' : World} {g : Nat} {A : Option Addr} {B c : Nat} {L : List Bool} (h : Wri w g A c L) (k : Only (WK g A) w w') (hB : B ≤ g) : Below B w w' :=
  k.below (by have := h.1.lt; omega) (fun i hi => by
    rcases hi with rfl | hi
    · exact hB
    · exact Nat.le_trans hB (Own.block (show Own w g 5 1 A _ c _ from h.2) hi).1)
theorem rk_below {w w' : World} {g B : Nat} (k : Only (RK g) w w') (hB : B ≤ g) (hw : B ≤ w.heap.size) : Below B w w' :=
  k.below hw (fun i hi => by obtain rfl : i = g := hi; exact hB)
theorem g53 (g : Nat) (w : World) (h : Wri w g none 0 []) : Calls Try.prog 11 #[.pointer (some ⟨g, 0, none⟩), .int .u32 5, .int .i64 3] w fun e w' => e = .returned (.int .i64 0) ∧ Wrote g none [true, false, true] w w' := group_t g none 0 [] 5 3 w h (by decide) (by decide) (by decide) (by decide)
theorem c13 (g : Nat) (A : Option Addr) (c : Nat) (w : World) (h : Wri w g A c [true, false, true]) : Calls Try.prog 10 #[.pointer (some ⟨g, 0, none⟩), .int .u32 1, .int .i64 3] w fun e w' => e = .returned (.int .i64 0) ∧ Wrote g A [true, false, true, false, false, true] w w' := code_t g A c [true, false, true] 1 3 w h (by decide) (by decide) (by decide) (by decide)
theorem g11 (g : Nat) (A : Option Addr) (c : Nat) (w : World) (h : Wri w g A c [true, false, true, false, false, true]) : Calls Try.prog 11 #[.pointer (some ⟨g, 0, none⟩), .int .u32 1, .int .i64 1] w fun e w' => e = .returned (.int .i64 0) ∧ Wrote g A [true, false, true, false, false, true, true] w w' := group_t g A c [true, false, true, false, false, true] 1 1 w h (by decide) (by decide) (by decide) (by decide)
theorem new101 (g : Nat) (w : World) {m : Nat × Nat} (h : w.heap[g]? = some (.cells #[.int .u8 101] 5 m)) : Calls Try.prog 12 #[.slice (some ⟨g, 0, none⟩) 1 1] w (NewPost w [101]) := new_t _ 1 [101] w (Bts.lit h rfl) (by decide)
theorem r3 (base g : Nat) (A : Option Addr) (c : Nat) (w : World) (h : Rdr w base g A c [101] 0) : Calls Try.prog 14 #[.pointer (some ⟨g, 0, none⟩), .int .i64 3] w fun e w' => e = .returned (.tuple #[.int .u32 5, .int .i64 0]) ∧ Rdr w' base g A c [101] 3 ∧ Only (RK g) w w' := rgroup_t base g A c [101] 0 8 3 w h rfl (by decide) (by decide) (by decide)
theorem r6 (base g : Nat) (A : Option Addr) (c : Nat) (w : World) (h : Rdr w base g A c [101] 3) : Calls Try.prog 14 #[.pointer (some ⟨g, 0, none⟩), .int .i64 3] w fun e w' => e = .returned (.tuple #[.int .u32 4, .int .i64 0]) ∧ Rdr w' base g A c [101] 6 ∧ Only (RK g) w w' := rgroup_t base g A c [101] 3 5 3 w h rfl (by decide) (by decide) (by decide)
theorem r7 (base g : Nat) (A : Option Addr) (c : Nat) (w : World) (h : Rdr w base g A c [101] 6) : Calls Try.prog 25 #[.pointer (some ⟨g, 0, none⟩)] w fun e w' => e = .returned (.tuple #[.int .u32 1, .int .i64 0]) ∧ Rdr w' base g A c [101] 7 ∧ Only (RK g) w w' := rbit_t base g A c [101] 6 2 w h rfl (by decide) (by decide)
theorem l1 (base g : Nat) (A : Option Addr) (c : Nat) (w : World) (h : Rdr w base g A c [101] 7) : Calls Try.prog 17 #[.pointer (some ⟨g, 0, none⟩)] w fun e w' => e = .returned (.int .i64 1) ∧ ∃ q, w' = w.drewN q := left_t base g A c [101] 7 1 w h rfl (by decide)
theorem t13 (w : World) : Calls Try.prog 15 #[.int .u32 1, .int .i64 3] w fun e w' => e = .returned (.int .u32 4) ∧ w = w' := turn_t 1 3 w (by decide) (by decide) (by decide)
theorem n7 (g : Nat) (A : Option Addr) (c : Nat) (w : World) (h : Wri w g A c [true, false, true, false, false, true, true]) : Calls Try.prog 16 #[.pointer (some ⟨g, 0, none⟩)] w fun e w' => e = .returned (.int .i64 7) ∧ w = w' := len_t g A c _ w h
theorem b7 (g : Nat) (A : Option Addr) (c : Nat) (w : World) (h : Wri w g A c [true, false, true, false, false, true, true]) : Calls Try.prog 13 #[.pointer (some ⟨g, 0, none⟩)] w fun e w' => (∃ A c, e = .returned (.slice A 1 c) ∧ Bts w' w'.heap.size A [101]) ∧ Below w.heap.size w w' := by
  refine (bytes_t g A c _ w h (by decide)).mono ?_
  rintro e w' ⟨A1, c1, rfl, h1, h2⟩
  have e1 : pack [true, false, true, false, false, true, true] = [101] := by decide
  rw [e1] at h1 ⊢
  exact ⟨⟨A1, c1, rfl, OwnB.reads h1⟩, h2⟩
theorem str_e {w : World} {A : Option Addr} {c : Nat} (h : Bts w w.heap.size A [101]) : (convert 25 9 (.slice A 1 c)).run Try.prog w = .ok (.string ⟨#[101]⟩) w :=
  run_str (l := [101]) Try.underlying25 Try.underlying5 Try.underlying9 h
set_option maxHeartbeats 3200000 in
set_option maxRecDepth 100000 in
theorem alive_t (w : World) : Calls Try.prog 8 #[] w fun e w' => e = .returned (.bool true) ∧ Below w.heap.size w w' := by
  go_enter Try.func8, Try.ntmps8
  go_wp2_with fail
  refine (g53 _ _ (wri_new w)).mono ?_
  rintro e w1 ⟨rfl, A1, c1, h1, o1, _⟩
  have hb1 : Below w.heap.size w w1 := ((Below.refl _ _).alloc (Nat.le_refl _) _).trans (wk_below (wri_new w) o1 (Nat.le_refl _))
  have H1 := Lib.hid h1
  have HB1 := Lib.hid hb1
  clear h1 o1 hb1
  go_wp2_with fail
  refine (c13 _ _ _ _ H1.out).mono ?_
  rintro e w2 ⟨rfl, A2, c2, h2, o2, _⟩
  have HB2 := Lib.hid (HB1.out.trans (wk_below H1.out o2 (Nat.le_refl _)))
  have H2 := Lib.hid h2
  clear h2 o2 H1
  go_wp2_with fail
  refine (g11 _ _ _ _ H2.out).mono ?_
  rintro e w3 ⟨rfl, A3, c3, h3, o3, _⟩
  have HB3 := Lib.hid (HB2.out.trans (wk_below H2.out o3 (Nat.le_refl _)))
  have H3 := Lib.hid h3
  clear h3 o3 H2
  go_wp2_with fail
  refine (new101 _ _ (heap_alloc_new _ _)).mono ?_
  rintro e w4 ⟨gr, A4, c4, rfl, hgr, h4, b4⟩
  have hb34 : Below w3.heap.size w3 w4 := ((Below.refl _ _).alloc (Nat.le_refl _) _).trans (b4.mono (by simp))
  have HB4 := Lib.hid (nextB HB3.out hb34)
  have H4 := Lib.hid (H3.out.below hb34)
  have R4 := Lib.hid h4
  have hgw : w.heap.size ≤ gr := by
    have := HB3.out.size
    simp at hgr
    omega
  clear h4 b4 hb34 H3 hgr
  go_wp2_with fail
  refine (r3 _ _ _ _ _ R4.out).mono ?_
  rintro e w5 ⟨rfl, h5, o5⟩
  have HB5 := Lib.hid (HB4.out.trans (rk_below o5 hgw HB4.out.size))
  have H5 := Lib.hid (H4.out.read R4.out o5)
  have R5 := Lib.hid h5
  clear h5 o5 H4 R4
  go_wp2_with fail
  refine (r6 _ _ _ _ _ R5.out).mono ?_
  rintro e w6 ⟨rfl, h6, o6⟩
  have HB6 := Lib.hid (HB5.out.trans (rk_below o6 hgw HB5.out.size))
  have H6 := Lib.hid (H5.out.read R5.out o6)
  have R6 := Lib.hid h6
  clear h6 o6 H5 R5
  go_wp2_with fail
  refine (r7 _ _ _ _ _ R6.out).mono ?_
  rintro e w7 ⟨rfl, h7, o7⟩
  have HB7 := Lib.hid (HB6.out.trans (rk_below o7 hgw HB6.out.size))
  have H7 := Lib.hid (H6.out.read R6.out o7)
  have R7 := Lib.hid h7
  clear h7 o7 H6 R6
  go_wp2_with fail
  refine (b7 _ _ _ _ H7.out).mono ?_
  rintro e w8 ⟨⟨A8, c8, rfl, h8⟩, b8⟩
  have hs := str_e (c := c8) h8
  have HB8 := Lib.hid (nextB HB7.out b8)
  have H8 := Lib.hid (H7.out.below b8)
  have R8 := Lib.hid (R7.out.below b8)
  clear h8 b8 H7 R7
  go_wp2_with fail
  refine (n7 _ _ _ _ H8.out).mono ?_
  rintro e w9 ⟨rfl, rfl⟩
  go_wp2_with fail
  refine (l1 _ _ _ _ _ R8.out).mono ?_
  rintro e w9 ⟨rfl, q, rfl⟩
  go_wp2_with fail
  refine (t13 _).mono ?_
  rintro e w9 ⟨rfl, rfl⟩
  go_wp2_with fail
  go_ret
  exact ⟨rfl, below_drewN HB8.out q⟩
end Go.Proofs.Ytboakhhmbjomfaa
