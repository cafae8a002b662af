/- HdrHistogram's cells: the document's Value walked. -/
import Derived.Test.YtclnjhcfoggeaaaHdrD
namespace Go.Proofs.Ytclnjhcfoggeaaa
open Go.RowKit

/-- The document's Value at an index from 0 on. -/
theorem bad_iff {k n : Nat} (hk : k < 2 ^ 63) (hn : n ≤ 128) : (63 < Hd.bl k + n ∧ k ≠ 0) ↔ 2 ^ 63 ≤ k * 2 ^ n := by
  by_cases h0 : k = 0
  · subst h0; simp
  by_cases h63 : n ≤ 63
  · have h := Hd.bl_ge (63 - n) k (by omega)
    have e : 2 ^ 63 = 2 ^ (63 - n) * 2 ^ n := by rw [← Nat.pow_add]; congr 1; omega
    rw [e, Nat.mul_le_mul_right_iff (Nat.two_pow_pos n), ← h]
    omega
  · have h1 : 2 ^ 63 ≤ 2 ^ n := Nat.pow_le_pow_right (by omega) (by omega)
    have h2 : 1 * 2 ^ n ≤ k * 2 ^ n := Nat.mul_le_mul_right _ (by omega)
    omega
def sh (K n : Nat) : Nat := K * 2 ^ n
theorem sh_zero (K : Nat) : sh K 0 = K := Nat.mul_one K
theorem sh_succ (K n : Nat) : sh K (n + 1) = 2 * sh K n := by
  unfold sh; rw [Nat.pow_succ, ← Nat.mul_assoc, Nat.mul_comm]
theorem sh_le {K n k : Nat} (h : n ≤ k) : sh K n ≤ sh K k := Nat.mul_le_mul_left _ (Nat.pow_le_pow_right (by omega) h)
set_option maxHeartbeats 800000 in
theorem rvalue_far (u m i  : Nat) (w : World) (hm1 : 1 ≤ m) (hm : m ≤ 18) (hum : u + m ≤ 62) (h66 : 66 * (Hd.half m : Int) ≤ (i : Int)) :
    Calls Try.prog 25 #[.int .i64 (u : Int), .int .i64 (m : Int), .int .i64 (i : Int)] w fun e w' => e = .returned (.tuple #[.int .i64 0, .bool false]) ∧ w' = w := by
  have hh := Hd.half_le hm
  have hhp := Hd.half_pos m
  have hh2 : (Hd.half m : Int) ≤ 131072 := by omega
  have hm2 : (m : Int) ≤ 18 := by omega
  have hm3 : (1 : Int) ≤ m := by omega
  have hu2 : (u : Int) ≤ 61 := by omega
  have hz : ((Hd.half m : Int) == 0) = false := by simp; omega
  have hz2 : ¬ (Hd.half m : Int) = 0 := by omega
  have HH := fun W => rpow2_t ((m : Int) - 1) (m - 1) W (by omega) (by omega)
  rw [half_pw] at HH
  have ht : decide (66 * (Hd.half m : Int) ≤ (i : Int)) = true := by simpa using h66
  go_enter Try.func25, Try.ntmps25
  go_wp2_with fail
  refine (HH _).mono ?_
  rintro e w1 ⟨rfl, rfl⟩
  go_wp2_with fail
  go_ret2
  exact ⟨rfl, rfl⟩

set_option maxHeartbeats 800000 in
theorem rvalue_low (u m i  : Nat) (w : World) (hm1 : 1 ≤ m) (hm : m ≤ 18) (hum : u + m ≤ 62) (hi2 : (i : Int) ≤ 9223372036854775807) (hil : i < Hd.half m) (hbad : valBad u m i = true ↔ 2 ^ 63 ≤ sh i u) (hval : vk m i * 2 ^ (vb m i + u) = sh i u) :
    Calls Try.prog 25 #[.int .i64 (u : Int), .int .i64 (m : Int), .int .i64 (i : Int)] w fun e w' => e = .returned (.tuple #[.int .i64 (valAt u m i : Nat), .bool (!valBad u m i)]) ∧ w' = w := by
  have hh := Hd.half_le hm
  have hhp := Hd.half_pos m
  have hh2 : (Hd.half m : Int) ≤ 131072 := by omega
  have hm2 : (m : Int) ≤ 18 := by omega
  have hm3 : (1 : Int) ≤ m := by omega
  have hu2 : (u : Int) ≤ 61 := by omega
  have hz : ((Hd.half m : Int) == 0) = false := by simp; omega
  have hz2 : ¬ (Hd.half m : Int) = 0 := by omega
  have HH := fun W => rpow2_t ((m : Int) - 1) (m - 1) W (by omega) (by omega)
  rw [half_pw] at HH
  have hq : (i : Int) / (Hd.half m : Int) = 0 := Int.ediv_eq_zero_of_lt (by omega) (by omega)
  have hr : (i : Int) % (Hd.half m : Int) = (i : Int) := Int.emod_eq_of_lt (by omega) (by omega)
  have hi3 : (i : Int) ≤ 131072 := by omega
  have ht : decide (66 * (Hd.half m : Int) ≤ (i : Int)) = false := by simp; omega
  have HBAD := Lib.hid hbad
  have HR := Lib.hid (show (valBad u m i = true → (Value.int .i64 (valAt u m i : Nat), Value.bool (!valBad u m i)) = (Value.int .i64 0, Value.bool false)) ∧ (¬ valBad u m i = true → (Value.int .i64 (valAt u m i : Nat), Value.bool (!valBad u m i)) = (Value.int .i64 (sh i (u) : Nat), Value.bool true)) from
    ⟨fun h => by simp [valAt, h], fun h => by simp only [Bool.not_eq_true] at h; simp [valAt, h, hval]⟩)
  clear hbad hval
  go_enter Try.func25, Try.ntmps25
  go_wp2_with fail
  refine (HH _).mono ?_
  rintro e w1 ⟨rfl, rfl⟩
  go_wp2_with fail
  go_loop [11, 12] (fun v n => ∃ k : Nat, k ≤ u ∧ n = .int .i64 k ∧ v = .int .u64 (sh i k : Nat) ∧ sh i k < 2 ^ 63) (fun _ n => u - (intOf n).toNat)
  case atStart => exact ⟨0, Nat.zero_le _, rfl, by rw [sh_zero], by rw [sh_zero]; omega⟩
  case round =>
    obtain ⟨k, hk, rfl, rfl, hks⟩ := hrel
    have hs := sh_succ i k
    have hs0 : 0 ≤ ((sh i k : Nat) : Int) := Int.natCast_nonneg _
    have hs1 : ((sh i k : Nat) : Int) ≤ 9223372036854775807 := by omega
    have hsn : k < u → 2 ^ 62 ≤ sh i k → 2 ^ 63 ≤ sh i (u) := fun h1 h2 => by
      have h3 := sh_le (K := i) (show k + 1 ≤ u by omega)
      omega
    have HX := Lib.hid (show ∃ X, X = sh i k from ⟨_, rfl⟩)
    have hk2 : (k : Int) ≤ 126 := by omega
    by_cases hlt : k < u
    · have hlt' : (k : Int) < u := by omega
      by_cases hbig : 2 ^ 62 ≤ sh i k
      · have hbad := HBAD.out.2 (hsn hlt hbig)
        have ht : decide ((4611686018427387904 : Int) ≤ ((sh i k : Nat) : Int)) = true := by simp; omega
        have RES := HR.out.1 hbad
        clear hs hsn hbad
        generalize sh i k = S at *
        go_wp2
        go_ret2
        exact ⟨congrArg (fun z : Value × Value => Ending.returned (.tuple #[z.1, z.2])) RES.symm, rfl⟩
      · have ht : decide ((4611686018427387904 : Int) ≤ ((sh i k : Nat) : Int)) = false := by simp; omega
        have hnew : sh i (k + 1) < 2 ^ 63 := by omega
        have hs2 : (2 : Int) * ((sh i k : Nat) : Int) = ((sh i (k + 1) : Nat) : Int) := by omega
        have hs3 : ((sh i (k + 1) : Nat) : Int) ≤ 9223372036854775807 := by omega
        have HN := Lib.hid hnew
        clear hnew hs hsn
        generalize sh i k = S at *
        obtain ⟨R, hR⟩ : ∃ R, R = sh i (k + 1) := ⟨_, rfl⟩
        have HRR := Lib.hid hR
        rw [← hR] at hs2 hs3
        clear hR
        go_wp2
        go_round
        case rel => exact ⟨k + 1, by omega, by go_num, by rw [HRR.out], HN.out⟩
        case measure => simp [intOf]; omega
    · have hkN : k = u := by omega
      have hS : sh i (u) = sh i k := by rw [hkN]
      have RES := HR.out.2 (fun hb => by have := HBAD.out.1 hb; omega)
      rw [hS] at RES
      have hlt2 : decide ((k : Int) < u) = false := by simp; omega
      clear hs hsn hS hkN
      have RS := Lib.hid RES.symm
      clear RES
      generalize sh i k = S at *
      go_wp2
      go_ret2
      exact ⟨congrArg (fun z : Value × Value => Ending.returned (.tuple #[z.1, z.2])) RS.out, rfl⟩

set_option maxHeartbeats 800000 in
theorem rvalue_high (u m i  b r : Nat) (w : World) (hm1 : 1 ≤ m) (hm : m ≤ 18) (hum : u + m ≤ 62) (hi2 : (i : Int) ≤ 9223372036854775807) (h66 : (i : Int) < 66 * (Hd.half m : Int)) (hq : (i : Int) / (Hd.half m : Int) = (b : Int) + 1) (hr : (i : Int) % (Hd.half m : Int) = (r : Int)) (hrlt : r < Hd.half m) (hb : b ≤ 64) (hbad : valBad u m i = true ↔ 2 ^ 63 ≤ sh (r + Hd.half m) (b + u)) (hval : vk m i * 2 ^ (vb m i + u) = sh (r + Hd.half m) (b + u)) :
    Calls Try.prog 25 #[.int .i64 (u : Int), .int .i64 (m : Int), .int .i64 (i : Int)] w fun e w' => e = .returned (.tuple #[.int .i64 (valAt u m i : Nat), .bool (!valBad u m i)]) ∧ w' = w := by
  have hh := Hd.half_le hm
  have hhp := Hd.half_pos m
  have hh2 : (Hd.half m : Int) ≤ 131072 := by omega
  have hm2 : (m : Int) ≤ 18 := by omega
  have hm3 : (1 : Int) ≤ m := by omega
  have hu2 : (u : Int) ≤ 61 := by omega
  have hz : ((Hd.half m : Int) == 0) = false := by simp; omega
  have hz2 : ¬ (Hd.half m : Int) = 0 := by omega
  have HH := fun W => rpow2_t ((m : Int) - 1) (m - 1) W (by omega) (by omega)
  rw [half_pw] at HH
  have ht : decide (66 * (Hd.half m : Int) ≤ (i : Int)) = false := by simp; omega
  have hb2 : (b : Int) ≤ 64 := by omega
  have hr2 : (r : Int) ≤ 131072 := by omega
  have HBAD := Lib.hid hbad
  have HR := Lib.hid (show (valBad u m i = true → (Value.int .i64 (valAt u m i : Nat), Value.bool (!valBad u m i)) = (Value.int .i64 0, Value.bool false)) ∧ (¬ valBad u m i = true → (Value.int .i64 (valAt u m i : Nat), Value.bool (!valBad u m i)) = (Value.int .i64 (sh (r + Hd.half m) (b + u) : Nat), Value.bool true)) from
    ⟨fun h => by simp [valAt, h], fun h => by simp only [Bool.not_eq_true] at h; simp [valAt, h, hval]⟩)
  clear hbad hval
  go_enter Try.func25, Try.ntmps25
  go_wp2_with fail
  refine (HH _).mono ?_
  rintro e w1 ⟨rfl, rfl⟩
  go_wp2_with fail
  go_loop [11, 12] (fun v n => ∃ k : Nat, k ≤ b + u ∧ n = .int .i64 k ∧ v = .int .u64 (sh (r + Hd.half m) k : Nat) ∧ sh (r + Hd.half m) k < 2 ^ 63) (fun _ n => b + u - (intOf n).toNat)
  case atStart => exact ⟨0, Nat.zero_le _, rfl, by rw [sh_zero, Int.natCast_add], by rw [sh_zero]; omega⟩
  case round =>
    obtain ⟨k, hk, rfl, rfl, hks⟩ := hrel
    have hs := sh_succ (r + Hd.half m) k
    have hs0 : 0 ≤ ((sh (r + Hd.half m) k : Nat) : Int) := Int.natCast_nonneg _
    have hs1 : ((sh (r + Hd.half m) k : Nat) : Int) ≤ 9223372036854775807 := by omega
    have hsn : k < b + u → 2 ^ 62 ≤ sh (r + Hd.half m) k → 2 ^ 63 ≤ sh (r + Hd.half m) (b + u) := fun h1 h2 => by
      have h3 := sh_le (K := (r + Hd.half m)) (show k + 1 ≤ b + u by omega)
      omega
    have HX := Lib.hid (show ∃ X, X = sh (r + Hd.half m) k from ⟨_, rfl⟩)
    have hk2 : (k : Int) ≤ 126 := by omega
    by_cases hlt : k < b + u
    · have hlt' : (k : Int) < (b : Int) + u := by omega
      by_cases hbig : 2 ^ 62 ≤ sh (r + Hd.half m) k
      · have hbad := HBAD.out.2 (hsn hlt hbig)
        have ht : decide ((4611686018427387904 : Int) ≤ ((sh (r + Hd.half m) k : Nat) : Int)) = true := by simp; omega
        have RES := HR.out.1 hbad
        clear hs hsn hbad
        generalize sh (r + Hd.half m) k = S at *
        go_wp2
        go_ret2
        exact ⟨congrArg (fun z : Value × Value => Ending.returned (.tuple #[z.1, z.2])) RES.symm, rfl⟩
      · have ht : decide ((4611686018427387904 : Int) ≤ ((sh (r + Hd.half m) k : Nat) : Int)) = false := by simp; omega
        have hnew : sh (r + Hd.half m) (k + 1) < 2 ^ 63 := by omega
        have hs2 : (2 : Int) * ((sh (r + Hd.half m) k : Nat) : Int) = ((sh (r + Hd.half m) (k + 1) : Nat) : Int) := by omega
        have hs3 : ((sh (r + Hd.half m) (k + 1) : Nat) : Int) ≤ 9223372036854775807 := by omega
        have HN := Lib.hid hnew
        clear hnew hs hsn
        generalize sh (r + Hd.half m) k = S at *
        obtain ⟨R, hR⟩ : ∃ R, R = sh (r + Hd.half m) (k + 1) := ⟨_, rfl⟩
        have HRR := Lib.hid hR
        rw [← hR] at hs2 hs3
        clear hR
        go_wp2
        go_round
        case rel => exact ⟨k + 1, by omega, by go_num, by rw [HRR.out], HN.out⟩
        case measure => simp [intOf]; omega
    · have hkN : k = b + u := by omega
      have hS : sh (r + Hd.half m) (b + u) = sh (r + Hd.half m) k := by rw [hkN]
      have RES := HR.out.2 (fun hb => by have := HBAD.out.1 hb; omega)
      rw [hS] at RES
      have hlt2 : decide ((k : Int) < (b : Int) + u) = false := by simp; omega
      clear hs hsn hS hkN
      have RS := Lib.hid RES.symm
      clear RES
      generalize sh (r + Hd.half m) k = S at *
      go_wp2
      go_ret2
      exact ⟨congrArg (fun z : Value × Value => Ending.returned (.tuple #[z.1, z.2])) RS.out, rfl⟩

theorem valBad_iff {u m i : Nat} (hm1 : 1 ≤ m) (hm : m ≤ 18) (hum : u + m ≤ 62) (hq : vb m i ≤ 64) (hi : i < 2 ^ 63) : valBad u m i = true ↔ 2 ^ 63 ≤ vk m i * 2 ^ (vb m i + u) := by
  have hh := Hd.half_le hm
  have hp := Hd.half_pos m
  have hrlt : i % Hd.half m < Hd.half m := Nat.mod_lt _ hp
  have hk : vk m i < 2 ^ 63 := by unfold vk; split <;> omega
  have h := bad_iff (k := vk m i) (n := vb m i + u) hk (by omega)
  rw [← h]
  unfold valBad
  simp only [Bool.or_eq_true, decide_eq_true_eq]
  by_cases h0 : vk m i = 0
  · have hi0 : i / Hd.half m = 0 := by
      unfold vk at h0
      split at h0
      · assumption
      · omega
    have hb0 : vb m i = 0 := by unfold vb; rw [hi0]
    have : Hd.bl 0 = 0 := Hd.bl_zero
    rw [h0, hb0, this]
    omega
  · omega
theorem rvalue_t (u m i : Nat) (w : World) (hm1 : 1 ≤ m) (hm : m ≤ 18) (hum : u + m ≤ 62) (hi : i < 2 ^ 63) :
    Calls Try.prog 25 #[.int .i64 (u : Int), .int .i64 (m : Int), .int .i64 (i : Int)] w fun e w' => e = .returned (.tuple #[.int .i64 (valAt u m i : Nat), .bool (!valBad u m i)]) ∧ w' = w := by
  have hp := Hd.half_pos m
  have hrlt : i % Hd.half m < Hd.half m := Nat.mod_lt _ hp
  have hq : (i : Int) / (Hd.half m : Int) = ((i / Hd.half m : Nat) : Int) := by push_cast; rfl
  have hr : (i : Int) % (Hd.half m : Int) = ((i % Hd.half m : Nat) : Int) := by push_cast; rfl
  by_cases h66 : 66 * Hd.half m ≤ i
  · have h1 : 66 ≤ i / Hd.half m := (Nat.le_div_iff_mul_le hp).2 h66
    have e : valBad u m i = true := by unfold valBad vb; simp only [Bool.or_eq_true, decide_eq_true_eq]; omega
    have e1 : valAt u m i = 0 := by simp [valAt, e]
    rw [e1, e]
    exact rvalue_far u m i w hm1 hm hum (by omega)
  · have h1 : i / Hd.half m < 66 := (Nat.div_lt_iff_lt_mul hp).2 (by omega)
    have hv : vb m i ≤ 64 := by unfold vb; omega
    have hbad := valBad_iff hm1 hm hum hv hi
    by_cases hq0 : i / Hd.half m = 0
    · have hil : i < Hd.half m := by
        rcases Nat.div_eq_zero_iff.1 hq0 with h2 | h2
        · omega
        · exact h2
      have e1 : vk m i * 2 ^ (vb m i + u) = sh i u := by simp [vk, vb, hq0, sh]
      rw [e1] at hbad
      exact rvalue_low u m i w hm1 hm hum (by omega) hil hbad e1
    · have e1 : vk m i * 2 ^ (vb m i + u) = sh (i % Hd.half m + Hd.half m) (i / Hd.half m - 1 + u) := by simp [vk, vb, hq0, sh]
      rw [e1] at hbad
      have hq2 : i / Hd.half m = (i / Hd.half m - 1) + 1 := by have := Nat.pos_of_ne_zero hq0; omega
      exact rvalue_high u m i (i / Hd.half m - 1) (i % Hd.half m) w hm1 hm hum (by omega) (by omega) (by rw [hq]; exact_mod_cast hq2) hr hrlt hv hbad e1
end Go.Proofs.Ytclnjhcfoggeaaa
