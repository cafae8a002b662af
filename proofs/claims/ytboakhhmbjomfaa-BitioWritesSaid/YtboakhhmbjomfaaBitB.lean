/- Bitio: fits and Turn walked. -/
import Derived.Test.YtboakhhmbjomfaaBitA
import Derived.Test.YtboakhhmbjomfaaBitRev
namespace Go.Proofs.Ytboakhhmbjomfaa
open Go.RowKit
open Bt
theorem fits_t (n : Nat) (c : Int) (w : World) (hn : n < 4294967296) (h0 : -9223372036854775808 ≤ c) (h1 : c ≤ 9223372036854775807) :
    Calls Try.prog 30 #[.int .u32 (n : Int), .int .i64 c] w fun e w' => e = .returned (.bool (fitsB n c)) ∧ w = w' := by
  by_cases h : c < 0 ∨ 32 < c
  · rw [fits_no h]
    rcases h with h | h
    · have hd : decide (0 ≤ c) = false := by simp; omega
      clear h
      go_enter Try.func30, Try.ntmps30
      go_wp2_with fail
      go_ret
      exact ⟨rfl, rfl⟩
    · have hd : decide (0 ≤ c) = true := by simp; omega
      have hd2 : decide (c ≤ 32) = false := by simp; omega
      have h2 : 0 ≤ c := by omega
      go_enter Try.func30, Try.ntmps30
      go_wp2_with fail
      go_ret
      exact ⟨rfl, rfl⟩
  · obtain ⟨k, rfl⟩ := Int.eq_ofNat_of_zero_le (show 0 ≤ c by omega)
    rw [fits_in (by omega)]
    have hk : (k : Int) ≤ 32 := by omega
    have hd : decide (0 ≤ (k : Int)) = true := by simp
    have hd2 : decide (k ≤ 32) = true := by simp; omega
    have hnn : (n : Int) < 4294967296 := by omega
    clear h h0 h1
    go_enter Try.func30, Try.ntmps30
    go_wp2_with fail
    go_ret
    refine ⟨?_, rfl⟩
    have : ((n : Int) / 2 ^ k == 0) = (n / 2 ^ k == 0) := by
      have e : (n : Int) / 2 ^ k = ((n / 2 ^ k : Nat) : Int) := by simp
      rw [e, Bool.eq_iff_iff, beq_iff_eq, beq_iff_eq]
      generalize n / 2 ^ k = z
      omega
    rw [this]
    rfl
theorem revBytes_t (x : W32) (w : World) :
    Calls Try.prog 34 #[.int .u32 (x.toNat : Int)] w fun e w' => e = .returned (.int .u32 ((revB x).toNat : Int)) ∧ w = w' := by
  have h4 := stage_walk 8 256 (by decide) m4 x
  have h5 := revB_walk x _ rfl
  have em : (m4.toNat : Int) = 16711935 := by decide
  have hx := toNat_lt32 x
  have hy := toNat_lt32 (stage 8 m4 x)
  rw [em] at h4
  generalize (stage 8 m4 x).toNat = y at *
  generalize (revB x).toNat = z at *
  generalize x.toNat = x0 at *
  have hxi : (x0 : Int) < 4294967296 := by omega
  have hyi : (y : Int) < 4294967296 := by omega
  clear em
  go_enter Try.func34, Try.ntmps34
  go_wp2_with fail
  go_ret
  exact ⟨rfl, rfl⟩
theorem rev_t (x : W32) (w : World) :
    Calls Try.prog 33 #[.int .u32 (x.toNat : Int)] w fun e w' => e = .returned (.int .u32 ((rev32 x).toNat : Int)) ∧ w = w' := by
  have h1 := stage_walk 1 2 (by decide) m1 x
  have h2 := stage_walk 2 4 (by decide) m2 (stage 1 m1 x)
  have h3 := stage_walk 4 16 (by decide) m3 (stage 2 m2 (stage 1 m1 x))
  have em1 : (m1.toNat : Int) = 1431655765 := by decide
  have em2 : (m2.toNat : Int) = 858993459 := by decide
  have em3 : (m3.toNat : Int) = 252645135 := by decide
  have b0 := toNat_lt32 x
  have b1 := toNat_lt32 (stage 1 m1 x)
  have b2 := toNat_lt32 (stage 2 m2 (stage 1 m1 x))
  have HB := Lib.hid (fun W => revBytes_t (stage 4 m3 (stage 2 m2 (stage 1 m1 x))) W)
  rw [em1] at h1
  rw [em2] at h2
  rw [em3] at h3
  unfold rev32
  generalize (revB (stage 4 m3 (stage 2 m2 (stage 1 m1 x)))).toNat = z at *
  generalize (stage 4 m3 (stage 2 m2 (stage 1 m1 x))).toNat = x3 at *
  generalize (stage 2 m2 (stage 1 m1 x)).toNat = x2 at *
  generalize (stage 1 m1 x).toNat = x1 at *
  generalize x.toNat = x0 at *
  have i0 : (x0 : Int) < 4294967296 := by omega
  have i1 : (x1 : Int) < 4294967296 := by omega
  have i2 : (x2 : Int) < 4294967296 := by omega
  clear em1 em2 em3
  go_enter Try.func33, Try.ntmps33
  go_wp2_with fail
  refine (HB.out _).mono ?_
  rintro e w1 ⟨rfl, rfl⟩
  go_wp2_with fail
  go_ret
  exact ⟨rfl, rfl⟩
end Go.Proofs.Ytboakhhmbjomfaa
