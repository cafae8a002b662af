/- Sparse: alive, and SparseOf, walked. -/
import Derived.Test.YtfpehefcgfhdmaaSpH
namespace Go.Proofs.Ytfpehefcgfhdmaa
open Go.RowKit
open Pl
def L3 : List Pr := [(1, 2), (5, 1), (9, 3)]
def L2 : List Pr := [(5, 3), (9, 3)]
theorem fine3 : Fine L3 := ⟨by unfold Srt; decide, by unfold Pos; decide, by unfold KeysIn; decide, by decide, by decide⟩
theorem fine2 : Fine L2 := ⟨by unfold Srt; decide, by unfold Pos; decide, by unfold KeysIn; decide, by decide, by decide⟩
theorem of3 (g0 : Nat) (w : World) {m : Nat × Nat} (h : w.heap[g0]? = some (.cells #[.int .i64 1, .int .u64 2, .int .i64 5, .int .u64 1, .int .i64 9, .int .u64 3] 32 m)) :
    Calls Try.prog 9 #[.slice (some ⟨g0, 0, none⟩) 3 3] w fun e w' => (∃ g A c, e = .returned (.tuple #[.pointer (some ⟨g, 0, none⟩), .int .i64 0]) ∧ w.heap.size ≤ g ∧ Lst w' g A c L3) ∧ Below w.heap.size w w' := by
  refine (of_t (some ⟨g0, 0, none⟩) 3 L3 w (Reads.lit h rfl rfl) (by decide)).mono ?_
  have e : ofL L3 [] = (L3, 0) := by decide +kernel
  rintro e1 w' (⟨_, h1, h2⟩ | ⟨h0, _⟩)
  · rw [e] at h1
    exact ⟨h1, h2⟩
  · rw [e] at h0
    exact absurd rfl h0
theorem key3 (g : Nat) (A : Option Addr) (c : Nat) (w : World) (h : Lst w g A c L3) : Calls Try.prog 15 #[.pointer (some ⟨g, 0, none⟩), .int .u64 3] w fun e w' => e = .returned (.tuple #[.int .i64 5, .int .i64 0]) ∧ Below w.heap.size w w' := key_ok g A c L3 3 w h fine3 (by decide) (by decide)
theorem key4 (g : Nat) (A : Option Addr) (c : Nat) (w : World) (h : Lst w g A c L3) : Calls Try.prog 15 #[.pointer (some ⟨g, 0, none⟩), .int .u64 4] w fun e w' => e = .returned (.tuple #[.int .i64 9, .int .i64 0]) ∧ Below w.heap.size w w' := key_ok g A c L3 4 w h fine3 (by decide) (by decide)
theorem below5 (g : Nat) (A : Option Addr) (c : Nat) (w : World) (h : Lst w g A c L3) : Calls Try.prog 17 #[.pointer (some ⟨g, 0, none⟩), .int .i64 5] w fun e w' => e = .returned (.int .u64 2) ∧ Below w.heap.size w w' := below_t g A c L3 5 w h fine3
theorem upto5 (g : Nat) (A : Option Addr) (c : Nat) (w : World) (h : Lst w g A c L3) : Calls Try.prog 18 #[.pointer (some ⟨g, 0, none⟩), .int .i64 5] w fun e w' => e = .returned (.int .u64 3) ∧ Below w.heap.size w w' := upto_t g A c L3 5 w h fine3
theorem cut2 (g : Nat) (A : Option Addr) (c : Nat) (w : World) (h : Lst w g A c L3) : Calls Try.prog 20 #[.pointer (some ⟨g, 0, none⟩), .int .i64 2] w fun e w' => e = .returned (.int .u64 2) ∧ Counted g A L2 w w' := cut_t g A c L3 2 w h fine3 (by decide) (by decide)
theorem pairs2 (g : Nat) (A : Option Addr) (c : Nat) (w : World) (h : Lst w g A c L2) : Calls Try.prog 12 #[.pointer (some ⟨g, 0, none⟩)] w fun e w' => (∃ A c, e = .returned (.slice A 2 c) ∧ Prs w' w'.heap.size A L2) ∧ Below w.heap.size w w' := by
  refine (pairs_t g A c L2 w h fine2).mono ?_
  rintro e w' ⟨A1, c1, rfl, h1, h2⟩
  exact ⟨⟨A1, c1, rfl, OwnP.reads h1⟩, h2⟩
theorem same2 (A : Option Addr) (c g : Nat) (w : World) {m : Nat × Nat} (h : Prs w w.heap.size A L2) (h2 : w.heap[g]? = some (.cells #[.int .i64 5, .int .u64 3, .int .i64 9, .int .u64 3] 32 m)) :
    Calls Try.prog 11 #[.slice A 2 c, .slice (some ⟨g, 0, none⟩) 2 2] w fun e w' => e = .returned (.bool true) ∧ ∃ n, w' = w.drewN n := same13_t A (some ⟨g, 0, none⟩) c 2 _ _ L2 w h (Reads.lit h2 rfl rfl) (by decide)
set_option maxHeartbeats 3200000 in
set_option maxRecDepth 100000 in
theorem alive_t (w : World) : Calls Try.prog 8 #[] w fun e w' => e = .returned (.bool true) ∧ Below w.heap.size w w' := by
  go_enter Try.func8, Try.ntmps8
  go_wp2_with fail
  refine (of3 _ _ (newest _ _)).mono ?_
  rintro e w1 ⟨⟨g, A, c, rfl, hg, h1⟩, b1⟩
  have B1 := Lib.hid (((Below.refl _ w).alloc (Nat.le_refl _) _).trans (b1.mono (by simp)))
  have S1 := Lib.hid h1
  have hgw : w.heap.size ≤ g := by simp at hg; omega
  clear h1 b1 hg
  go_wp2_with fail
  refine (key3 g A c _ S1.out).mono ?_
  rintro e w2 ⟨rfl, b2⟩
  have B2 := Lib.hid (nextB B1.out b2)
  have S2 := Lib.hid (S1.out.below b2)
  clear b2
  go_wp2_with fail
  refine (key4 g A c _ S2.out).mono ?_
  rintro e w3 ⟨rfl, b3⟩
  have B3 := Lib.hid (nextB B2.out b3)
  have S3 := Lib.hid (S2.out.below b3)
  clear b3
  go_wp2_with fail
  refine (below5 g A c _ S3.out).mono ?_
  rintro e w4 ⟨rfl, b4⟩
  have B4 := Lib.hid (nextB B3.out b4)
  have S4 := Lib.hid (S3.out.below b4)
  clear b4
  go_wp2_with fail
  refine (upto5 g A c _ S4.out).mono ?_
  rintro e w5 ⟨rfl, b5⟩
  have B5 := Lib.hid (nextB B4.out b5)
  have S5 := Lib.hid (S4.out.below b5)
  clear b5
  go_wp2_with fail
  refine (cut2 g A c _ S5.out).mono ?_
  rintro e w6 ⟨rfl, h6⟩
  obtain ⟨⟨A6, c6, hl6⟩, hb6⟩ := counted_below B5.out hgw S5.out h6
  have B6 := Lib.hid hb6
  have S6 := Lib.hid hl6
  clear h6 hl6 hb6
  go_wp2_with fail
  refine (pairs2 g A6 c6 _ S6.out).mono ?_
  rintro e w7 ⟨⟨A7, c7, rfl, h7⟩, b7⟩
  have B7 := Lib.hid (nextB B6.out b7)
  have S7 := Lib.hid h7
  clear h7 b7
  go_wp2_with fail
  refine (same2 A7 c7 _ _ (S7.out.at_below ((Below.refl _ _).alloc (Nat.le_refl _) _)) (newest _ _)).mono ?_
  rintro e w8 ⟨rfl, q, rfl⟩
  go_wp2_with fail
  go_ret
  exact ⟨rfl, below_drewN (newB B7.out _) q⟩
end Go.Proofs.Ytfpehefcgfhdmaa
