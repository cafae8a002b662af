/- HdrHistogram's cells: the laws walked. -/
import Derived.Test.YtclnjhcfoggeaaaHdrG
import Derived.Test.YtclnjhcfoggeaaaHdrC
import Derived.Test.YtclnjhcfoggeaaaOpen
import Derived.Deep.RegionHeld3
namespace Go.Proofs.Ytclnjhcfoggeaaa
open Go.RowKit

set_option maxHeartbeats 1600000 in
theorem alive_t (w : World) :
    Calls Try.prog 8 #[] w fun e w' => e = .returned (.bool true) ∧ Below w.heap.size w w' := by
  have u0 : uOf 1 = 0 := by decide +kernel
  have m0 : mOf 3 = 11 := by decide +kernel
  have hnew := fun W => new_t 1 3 3600000000 W (by omega) (by omega) (by omega) (by omega) (by omega) (by rw [u0, m0]; omega)
  rw [u0, m0] at hnew
  have i1 : Hd.idx 0 11 2047 = 2047 := by decide +kernel
  have i2 : Hd.idx 0 11 2049 = 2048 := by decide +kernel
  have i3 : Hd.idx 0 11 4096 = 3072 := by decide +kernel
  have l1 : Hd.low 0 11 10007 = 10000 := by decide +kernel
  have s1 : Hd.size 0 11 10007 = 8 := by decide +kernel
  have b1 : Hd.bk 0 11 3600000000 = 21 := by decide +kernel
  have h1 : (22 + 1) * Hd.half 11 = 23552 := by decide +kernel
  go_enter Try.func8, Try.ntmps8
  go_wp2_with fail
  refine (hnew _).mono ?_
  rintro e w1 ⟨g, rfl, hg, hgl, hmp, hb⟩
  have HM := Lib.hid hmp
  have HB := Lib.hid hb
  clear hmp hb hg
  go_wp2_with fail
  refine (index_t g _ _ _ 0 11 2047 _ HM.out (by omega) (by omega) (by omega) (by omega)).mono ?_
  rw [i1]
  rintro e w2 ⟨rfl, n, rfl⟩
  go_wp2_with fail
  refine (index_t g _ _ _ 0 11 2049 _ (HM.out.drewN _) (by omega) (by omega) (by omega) (by omega)).mono ?_
  rw [i2]
  rintro e w2 ⟨rfl, n, rfl⟩
  go_wp2_with fail
  refine (index_t g _ _ _ 0 11 4096 _ (HM.out.drewN _) (by omega) (by omega) (by omega) (by omega)).mono ?_
  rw [i3]
  rintro e w2 ⟨rfl, n, rfl⟩
  go_wp2_with fail
  refine (low_t g _ _ _ 0 11 10007 _ (HM.out.drewN _) (by omega) (by omega) (by omega)).mono ?_
  rw [l1]
  rintro e w2 ⟨rfl, n, rfl⟩
  go_wp2_with fail
  refine (high_t g _ _ _ 0 11 10007 _ (HM.out.drewN _) (by omega) (by omega) (by omega)).mono ?_
  rw [l1, s1]
  rintro e w2 ⟨rfl, n, rfl⟩
  go_wp2_with fail
  refine (size_t g _ _ _ 0 11 10007 _ (HM.out.drewN _) (by omega) (by omega) (by omega)).mono ?_
  rw [s1]
  rintro e w2 ⟨rfl, n, rfl⟩
  go_wp2_with fail
  refine (unit_t g _ _ _ 0 11 _ (HM.out.drewN _)).mono ?_
  rintro e w2 ⟨rfl, rfl⟩
  go_wp2_with fail
  refine (magnitude_t g _ _ _ 0 11 _ (HM.out.drewN _)).mono ?_
  rintro e w2 ⟨rfl, rfl⟩
  go_wp2_with fail
  refine (buckets_t g _ _ _ 0 11 3600000000 3600000000 _ (HM.out.drewN _) (by omega) (by omega) (by decide)).mono ?_
  rw [b1]
  rintro e w2 ⟨rfl, n, rfl⟩
  go_wp2_with fail
  refine (cells_t g _ _ _ 0 11 22 22 _ (HM.out.drewN _) (by omega) (by omega) (by omega) (by decide)).mono ?_
  rw [h1]
  rintro e w2 ⟨rfl, n, rfl⟩
  go_wp2_with fail
  go_ret
  exact ⟨rfl, below_drewN HB.out _⟩

theorem held_step {W0 W W' : World} {H : Nat} {a b c : Value} (hH : H < W0.heap.size) (h : W.cell? ⟨H, 0, none⟩ = some a ∧ W.cell? ⟨H, 1, none⟩ = some b ∧ W.cell? ⟨H, 2, none⟩ = some c ∧ Below W0.heap.size W0 W) (hb : Below W.heap.size W W') :
    W'.cell? ⟨H, 0, none⟩ = some a ∧ W'.cell? ⟨H, 1, none⟩ = some b ∧ W'.cell? ⟨H, 2, none⟩ = some c ∧ Below W0.heap.size W0 W' := by
  have hlt : H < W.heap.size := Nat.lt_of_lt_of_le hH h.2.2.2.size
  exact ⟨(hb.cell (p := ⟨H, 0, none⟩) hlt).trans h.1, (hb.cell (p := ⟨H, 1, none⟩) hlt).trans h.2.1, (hb.cell (p := ⟨H, 2, none⟩) hlt).trans h.2.2.1, h.2.2.2.trans (hb.mono h.2.2.2.size)⟩
set_option maxHeartbeats 1600000 in
theorem hdrmapShapes_walk (w : World) (lo hi d : Int) (a0 : -9223372036854775808 ≤ lo) (a1 : lo ≤ 9223372036854775807) (b0 : -9223372036854775808 ≤ hi) (b1 : hi ≤ 9223372036854775807) (c0 : -9223372036854775808 ≤ d) (c1 : d ≤ 9223372036854775807) :
    Calls Try.prog 3 #[.agg #[.int .i64 lo, .int .i64 hi, .int .i64 d]] w fun e w' => e = .returned (.bool true) ∧ Below w.heap.size w w' := by
  by_cases hok : 1 ≤ d ∧ d ≤ 5 ∧ 1 ≤ lo ∧ 2 * lo ≤ hi
  · obtain ⟨L, rfl⟩ : ∃ L : Nat, lo = (L : Int) := ⟨lo.toNat, by omega⟩
    obtain ⟨D, rfl⟩ : ∃ D : Nat, d = (D : Int) := ⟨d.toNat, by omega⟩
    obtain ⟨h1, h5, hl, hh⟩ := hok
    have HR := fun W => rshape_t L D hi W (by omega) (by omega) (by omega) hh b1
    have HN := fun (hum : uOf L + mOf D ≤ 62) W => new_t L D hi W (by omega) (by omega) (by omega) hh b1 hum
    have HW := fun (hum : 62 < uOf L + mOf D) W => new_wide L D hi W (by omega) (by omega) (by omega) hh b1 hum
    have hU := uOf_le (L := L) (by omega)
    have hM := (mOf_range (D := D) (by omega) (by omega)).2
    generalize uOf L = U at *
    generalize mOf D = M at *
    have HA := alive_t
    by_cases hum : U + M ≤ 62
    · have ht : decide ((U : Int) + M ≤ 62) = true := by simp; omega
      have HN2 := HN hum
      rw [ht] at HR
      clear HN HW hh
      go_enter Try.func3, Try.ntmps3
      go_wp2_with fail
      have hbel : Below w.heap.size w (w.alloc (.cells #[.int .i64 (L : Int), .int .i64 hi, .int .i64 (D : Int)] 23)) := (Below.refl _ _).alloc (Nat.le_refl _) _
      have hblk := Blk.new w 23 #[.int .i64 (L : Int), .int .i64 hi, .int .i64 (D : Int)]
      generalize w.alloc (.cells #[.int .i64 (L : Int), .int .i64 hi, .int .i64 (D : Int)] 23) = W0 at *
      generalize hH : w.heap.size = H at hblk ⊢
      have HB := Lib.hid hbel
      clear hbel
      refine (HA _).mono ?_
      rintro e w1 ⟨rfl, hb1⟩
      have hblk1 := hblk.below hb1 hblk.lt
      have k0 : w1.cell? ⟨H, 0, none⟩ = some (.int .i64 (L : Int)) := by rw [hblk1.cell]; rfl
      have k1 : w1.cell? ⟨H, 1, none⟩ = some (.int .i64 hi) := by rw [hblk1.cell]; rfl
      have k2 : w1.cell? ⟨H, 2, none⟩ = some (.int .i64 (D : Int)) := by rw [hblk1.cell]; rfl
      have HB1 := Lib.hid hb1
      have HL1 := Lib.hid hblk1
      clear hb1 hblk hblk1
      go_wp2_with fail
      refine (HN2 _).mono ?_
      rintro e w2 ⟨g, rfl, hg, hgl, hmp, hb⟩
      have hblk2 := HL1.out.below hb HL1.out.lt
      have m0 : w2.cell? ⟨H, 0, none⟩ = some (.int .i64 (L : Int)) := by rw [hblk2.cell]; rfl
      have m1 : w2.cell? ⟨H, 1, none⟩ = some (.int .i64 hi) := by rw [hblk2.cell]; rfl
      have m2 : w2.cell? ⟨H, 2, none⟩ = some (.int .i64 (D : Int)) := by rw [hblk2.cell]; rfl
      have HM := Lib.hid hmp
      have HB2 := Lib.hid hb
      have HL2 := Lib.hid hblk2
      clear hmp hb hg hblk2 k0 k1 k2
      go_wp2_with fail
      refine (HR _).mono ?_
      rintro e w3 ⟨rfl, hb3⟩
      have hblk3 := HL2.out.below hb3 HL2.out.lt
      have hmp3 := HM.out.below hb3 hgl
      have n0 : w3.cell? ⟨H, 0, none⟩ = some (.int .i64 (L : Int)) := by rw [hblk3.cell]; rfl
      have n1 : w3.cell? ⟨H, 1, none⟩ = some (.int .i64 hi) := by rw [hblk3.cell]; rfl
      have n2 : w3.cell? ⟨H, 2, none⟩ = some (.int .i64 (D : Int)) := by rw [hblk3.cell]; rfl
      have HM3 := Lib.hid hmp3
      have HB3 := Lib.hid hb3
      have HL3 := Lib.hid hblk3
      have hlt3 : H < w3.heap.size := hblk3.lt
      have hgl3 : g < w3.heap.size := Nat.lt_of_lt_of_le hgl hb3.size
      clear hmp3 hb3 hblk3 m0 m1 m2
      have hself : w3.drew.cell? ⟨H, 0, none⟩ = some (.int .i64 (L : Int)) ∧ w3.drew.cell? ⟨H, 1, none⟩ = some (.int .i64 hi) ∧ w3.drew.cell? ⟨H, 2, none⟩ = some (.int .i64 (D : Int)) ∧ Below w3.heap.size w3 w3.drew := ⟨n0, n1, n2, (Below.refl _ _).drew⟩
      go_wp2_with fail
      go_region_held3 (fun W' => W'.cell? ⟨H, 0, none⟩ = some (.int .i64 (L : Int)) ∧ W'.cell? ⟨H, 1, none⟩ = some (.int .i64 hi) ∧ W'.cell? ⟨H, 2, none⟩ = some (.int .i64 (D : Int)) ∧ Below w3.heap.size w3 W') ((first | exact hself | assumption | exact held_step hlt3 (by assumption) (by assumption))) ((first
        | (go_at_call 11; (with_reducible refine (shape_t g _ _ _ U M _ (HM3.out.below (And.right (And.right (And.right ‹_›))) hgl3)).mono ?_); rintro e w5 ⟨rfl, hb5⟩)
        | (go_at_call 12; (with_reducible refine (unit_t g _ _ _ U M _ (HM3.out.below (And.right (And.right (And.right ‹_›))) hgl3)).mono ?_); rintro e w6 ⟨rfl, rfl⟩)
        | (go_at_call 13; (with_reducible refine (magnitude_t g _ _ _ U M _ (HM3.out.below (And.right (And.right (And.right ‹_›))) hgl3)).mono ?_); rintro e w7 ⟨rfl, rfl⟩)))
      have HC := Lib.hid (nextB (nextB (nextB HB.out HB1.out) HB2.out) HB3.out)
      go_wp2_with fail
      go_ret
      exact ⟨rfl, nextB HC.out (And.right (And.right (And.right ‹_›)))⟩
    · have ht : decide ((U : Int) + M ≤ 62) = false := by simp; omega
      have HX := HW (by omega)
      rw [ht] at HR
      clear HN HW hh
      go_enter Try.func3, Try.ntmps3
      go_wp2_with fail
      have hbel : Below w.heap.size w (w.alloc (.cells #[.int .i64 (L : Int), .int .i64 hi, .int .i64 (D : Int)] 23)) := (Below.refl _ _).alloc (Nat.le_refl _) _
      have hblk := Blk.new w 23 #[.int .i64 (L : Int), .int .i64 hi, .int .i64 (D : Int)]
      generalize w.alloc (.cells #[.int .i64 (L : Int), .int .i64 hi, .int .i64 (D : Int)] 23) = W0 at *
      generalize hH : w.heap.size = H at hblk ⊢
      have HB := Lib.hid hbel
      clear hbel
      refine (HA _).mono ?_
      rintro e w1 ⟨rfl, hb1⟩
      have hblk1 := hblk.below hb1 hblk.lt
      have k0 : w1.cell? ⟨H, 0, none⟩ = some (.int .i64 (L : Int)) := by rw [hblk1.cell]; rfl
      have k1 : w1.cell? ⟨H, 1, none⟩ = some (.int .i64 hi) := by rw [hblk1.cell]; rfl
      have k2 : w1.cell? ⟨H, 2, none⟩ = some (.int .i64 (D : Int)) := by rw [hblk1.cell]; rfl
      have HB1 := Lib.hid hb1
      have HL1 := Lib.hid hblk1
      clear hb1 hblk hblk1
      go_wp2_with fail
      refine (HX _).mono ?_
      rintro e w2 ⟨rfl, hb⟩
      have hblk2 := HL1.out.below hb HL1.out.lt
      have m0 : w2.cell? ⟨H, 0, none⟩ = some (.int .i64 ((L : Int))) := by rw [hblk2.cell]; rfl
      have m1 : w2.cell? ⟨H, 1, none⟩ = some (.int .i64 hi) := by rw [hblk2.cell]; rfl
      have m2 : w2.cell? ⟨H, 2, none⟩ = some (.int .i64 ((D : Int))) := by rw [hblk2.cell]; rfl
      have HB2 := Lib.hid hb
      clear hb hblk2 k0 k1 k2
      go_wp2_with fail
      refine (HR _).mono ?_
      rintro e w3 ⟨rfl, hb3⟩
      have HB3 := Lib.hid hb3
      clear hb3
      go_wp2_with fail
      go_ret
      exact ⟨rfl, nextB (nextB (nextB HB.out HB1.out) HB2.out) HB3.out⟩
  · have HX := fun W => new_bad lo hi d W b0 b1 hok
    have HR := fun W => rshape_bad lo hi d W b0 b1 hok
    have HA := alive_t
    clear hok
    go_enter Try.func3, Try.ntmps3
    go_wp2_with fail
    have hbel : Below w.heap.size w (w.alloc (.cells #[.int .i64 lo, .int .i64 hi, .int .i64 d] 23)) := (Below.refl _ _).alloc (Nat.le_refl _) _
    have hblk := Blk.new w 23 #[.int .i64 lo, .int .i64 hi, .int .i64 d]
    generalize w.alloc (.cells #[.int .i64 lo, .int .i64 hi, .int .i64 d] 23) = W0 at *
    generalize hH : w.heap.size = H at hblk ⊢
    have HB := Lib.hid hbel
    clear hbel
    refine (HA _).mono ?_
    rintro e w1 ⟨rfl, hb1⟩
    have hblk1 := hblk.below hb1 hblk.lt
    have k0 : w1.cell? ⟨H, 0, none⟩ = some (.int .i64 lo) := by rw [hblk1.cell]; rfl
    have k1 : w1.cell? ⟨H, 1, none⟩ = some (.int .i64 hi) := by rw [hblk1.cell]; rfl
    have k2 : w1.cell? ⟨H, 2, none⟩ = some (.int .i64 d) := by rw [hblk1.cell]; rfl
    have HB1 := Lib.hid hb1
    have HL1 := Lib.hid hblk1
    clear hb1 hblk hblk1
    go_wp2_with fail
    refine (HX _).mono ?_
    rintro e w2 ⟨rfl, hb⟩
    have hblk2 := HL1.out.below hb HL1.out.lt
    have m0 : w2.cell? ⟨H, 0, none⟩ = some (.int .i64 (lo)) := by rw [hblk2.cell]; rfl
    have m1 : w2.cell? ⟨H, 1, none⟩ = some (.int .i64 hi) := by rw [hblk2.cell]; rfl
    have m2 : w2.cell? ⟨H, 2, none⟩ = some (.int .i64 (d)) := by rw [hblk2.cell]; rfl
    have HB2 := Lib.hid hb
    clear hb hblk2 k0 k1 k2
    go_wp2_with fail
    refine (HR _).mono ?_
    rintro e w3 ⟨rfl, hb3⟩
    have HB3 := Lib.hid hb3
    clear hb3
    go_wp2_with fail
    go_ret
    exact ⟨rfl, nextB (nextB (nextB HB.out HB1.out) HB2.out) HB3.out⟩
end Go.Proofs.Ytclnjhcfoggeaaa
