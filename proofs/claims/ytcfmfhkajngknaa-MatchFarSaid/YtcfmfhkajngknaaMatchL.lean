/- Match: alive walked. -/
import Derived.Test.YtcfmfhkajngknaaMatchK
namespace Go.Proofs.Ytcfmfhkajngknaa
open Go.RowKit
open Mt
theorem toks_a : toks [97, 97, 97, 97, 97] 0 = [(97, 0, 0), (0, 4, 1)] := by
  rw [toks_F _ 5 0 (by decide)]
  decide +kernel
theorem toks_b : toks [97, 98, 99, 97, 98, 99, 100] 0 = [(97, 0, 0), (98, 0, 0), (99, 0, 0), (0, 3, 3), (100, 0, 0)] := by
  rw [toks_F _ 7 0 (by decide)]
  decide +kernel
theorem find_a (g : Nat) (w : World) {m : Nat × Nat} (h : w.heap[g]? = some (.cells #[.int .u8 97, .int .u8 97, .int .u8 97, .int .u8 97, .int .u8 97] 5 m)) :
    Calls Try.prog 8 #[.slice (some ⟨g, 0, none⟩) 5 5] w fun e w' => (∃ A c, e = .returned (.slice A 2 c) ∧ OwnT w' w.heap.size A c [(97, 0, 0), (0, 4, 1)]) ∧ Below w.heap.size w w' := by
  have hb : Bts w w.heap.size (some ⟨g, 0, none⟩) [97, 97, 97, 97, 97] := Bts.lit h rfl
  refine (find_t _ 5 _ w hb (by decide) (by decide)).mono ?_
  rintro e w' ⟨A, c, rfl, h1, h2⟩
  rw [toks_a] at h1 ⊢
  exact ⟨⟨A, c, rfl, h1⟩, h2⟩
theorem find_b (g : Nat) (w : World) {m : Nat × Nat} (h : w.heap[g]? = some (.cells #[.int .u8 97, .int .u8 98, .int .u8 99, .int .u8 97, .int .u8 98, .int .u8 99, .int .u8 100] 5 m)) :
    Calls Try.prog 8 #[.slice (some ⟨g, 0, none⟩) 7 7] w fun e w' => (∃ A c, e = .returned (.slice A 5 c) ∧ OwnT w' w.heap.size A c [(97, 0, 0), (98, 0, 0), (99, 0, 0), (0, 3, 3), (100, 0, 0)]) ∧ Below w.heap.size w w' := by
  have hb : Bts w w.heap.size (some ⟨g, 0, none⟩) [97, 98, 99, 97, 98, 99, 100] := Bts.lit h rfl
  refine (find_t _ 7 _ w hb (by decide) (by decide)).mono ?_
  rintro e w' ⟨A, c, rfl, h1, h2⟩
  rw [toks_b] at h1 ⊢
  exact ⟨⟨A, c, rfl, h1⟩, h2⟩
theorem same_a (A : Option Addr) (c g : Nat) (w : World) {m : Nat × Nat} (h1 : Tks w w.heap.size A [(97, 0, 0), (0, 4, 1)]) (h : w.heap[g]? = some (.cells #[.int .u8 97, .int .i64 0, .int .i64 0, .int .u8 0, .int .i64 4, .int .i64 1] 28 m)) :
    Calls Try.prog 12 #[.slice A 2 c, .slice (some ⟨g, 0, none⟩) 2 2] w fun e w' => e = .returned (.bool true) ∧ ∃ n, w' = w.drewN n :=
  msame_t A _ c 2 [(97, 0, 0), (0, 4, 1)] w h1 (Reads.lit h rfl rfl) (by decide)
theorem same_b (A : Option Addr) (c g : Nat) (w : World) {m : Nat × Nat} (h1 : Tks w w.heap.size A [(97, 0, 0), (98, 0, 0), (99, 0, 0), (0, 3, 3), (100, 0, 0)]) (h : w.heap[g]? = some (.cells #[.int .u8 97, .int .i64 0, .int .i64 0, .int .u8 98, .int .i64 0, .int .i64 0, .int .u8 99, .int .i64 0, .int .i64 0, .int .u8 0, .int .i64 3, .int .i64 3, .int .u8 100, .int .i64 0, .int .i64 0] 28 m)) :
    Calls Try.prog 12 #[.slice A 5 c, .slice (some ⟨g, 0, none⟩) 5 5] w fun e w' => e = .returned (.bool true) ∧ ∃ n, w' = w.drewN n :=
  msame_t A _ c 5 [(97, 0, 0), (98, 0, 0), (99, 0, 0), (0, 3, 3), (100, 0, 0)] w h1 (Reads.lit h rfl rfl) (by decide)
set_option maxHeartbeats 1600000 in
theorem alive_t (w : World) : Calls Try.prog 7 #[] w fun e w' => e = .returned (.bool true) ∧ Below w.heap.size w w' := by
  have kc := fun (w : World) (C : Array Value) (n c : Nat) => Lib.run_convert_bytes_const (P := Try.prog) w 22 5 C n c Try.underlying22 Try.underlying5
  go_enter Try.func7, Try.ntmps7
  go_wp2_with fail
  refine (find_a _ _ (heap_alloc_new _ _)).mono ?_
  rintro e w1 ⟨⟨A1, c1, rfl, ho1⟩, hb1⟩
  have hB1 : Below w.heap.size w w1 := ((Below.refl _ _).alloc (Nat.le_refl _) _).trans (hb1.mono (by simp))
  have HO1 := Lib.hid (OwnT.reads ho1)
  have HB1 := Lib.hid hB1
  clear ho1 hb1 hB1
  go_wp2_with fail
  refine (find_b _ _ (heap_alloc_new _ _)).mono ?_
  rintro e w2 ⟨⟨A2, c2, rfl, ho2⟩, hb2⟩
  have hb2' : Below w1.heap.size w1 w2 := ((Below.refl _ _).alloc (Nat.le_refl _) _).trans (hb2.mono (by simp))
  have HO2 := Lib.hid (OwnT.reads ho2)
  have HO12 := Lib.hid (HO1.out.at_below hb2')
  have HB2 := Lib.hid (nextB HB1.out hb2')
  clear ho2 hb2 hb2' HO1
  go_wp2_with fail
  have h12 : ∀ o, Tks (w2.alloc o) (w2.alloc o).heap.size A1 [(97, 0, 0), (0, 4, 1)] := fun o => HO12.out.at_below ((Below.refl _ _).alloc (Nat.le_refl _) o)
  refine (same_a _ _ _ _ (h12 _) (heap_alloc_new _ _)).mono ?_
  rintro e w3 ⟨rfl, q, rfl⟩
  have hB3 : Below w2.heap.size w2 ((w2.alloc (.cells #[.int .u8 97, .int .i64 0, .int .i64 0, .int .u8 0, .int .i64 4, .int .i64 1] 28)).drewN q) := below_drewN ((Below.refl _ _).alloc (Nat.le_refl _) _) q
  clear h12
  generalize (w2.alloc (.cells #[.int .u8 97, .int .i64 0, .int .i64 0, .int .u8 0, .int .i64 4, .int .i64 1] 28)).drewN q = w3 at *
  have HO3 := Lib.hid (HO2.out.at_below hB3)
  have HB3 := Lib.hid (nextB HB2.out hB3)
  clear hB3
  go_wp2_with fail
  have h13 : ∀ o, Tks (w3.alloc o) (w3.alloc o).heap.size A2 [(97, 0, 0), (98, 0, 0), (99, 0, 0), (0, 3, 3), (100, 0, 0)] := fun o => HO3.out.at_below ((Below.refl _ _).alloc (Nat.le_refl _) o)
  refine (same_b _ _ _ _ (h13 _) (heap_alloc_new _ _)).mono ?_
  rintro e w4 ⟨rfl, q2, rfl⟩
  go_wp2_with fail
  go_ret
  exact ⟨rfl, below_drewN (newB HB3.out _) q2⟩
end Go.Proofs.Ytcfmfhkajngknaa
