/- HdrHistogram's cells: the document's answers walked. -/
import Derived.Test.YtclnjhcfoggeaaaHdrB
namespace Go.Proofs.Ytclnjhcfoggeaaa
open Go.RowKit

def pw (n : Nat) : Nat := 2 ^ n
theorem pw_zero : pw 0 = 1 := rfl
theorem pw_succ (k : Nat) : (2 : Int) * ((pw k : Nat) : Int) = ((pw (k + 1) : Nat) : Int) := by
  unfold pw; rw [Nat.pow_succ]; push_cast; omega
theorem pw_le {k n : Nat} (h : k ≤ n) : pw k ≤ pw n := Nat.pow_le_pow_right (by omega) h
theorem pw63 : pw 63 = 9223372036854775808 := by decide
theorem pw_pos (n : Nat) : 0 < pw n := Nat.two_pow_pos n
set_option maxHeartbeats 400000 in
theorem rpow_t (n : Nat) (w : World) (hn : n ≤ 63) :
    Calls Try.prog 17 #[.int .i64 (n : Int)] w fun e w' => e = .returned (.int .u64 (pw n : Nat)) ∧ w' = w := by
  have hn2 : (n : Int) ≤ 63 := by omega
  go_enter Try.func17, Try.ntmps17
  go_wp2_with fail
  go_loop [3, 4] (fun v i => ∃ k : Nat, k ≤ n ∧ i = .int .i64 k ∧ v = .int .u64 (pw k : Nat)) (fun _ i => n - (intOf i).toNat)
  case atStart => exact ⟨0, Nat.zero_le _, rfl, rfl⟩
  case round =>
    obtain ⟨k, hk, rfl, rfl⟩ := hrel
    by_cases hlt : k < n
    · have hlt' : (k : Int) < n := by omega
      have hb := pw_le (show k + 1 ≤ 63 by omega)
      rw [pw63] at hb
      have hs := pw_succ k
      generalize hP : pw k = P at *
      have hR : ∃ R, R = pw (k + 1) := ⟨_, rfl⟩
      obtain ⟨R, hR⟩ := hR
      rw [← hR] at hs hb
      have hb2 : 0 ≤ (R : Int) := Int.natCast_nonneg _
      have hb3 : (R : Int) ≤ 9223372036854775808 := by omega
      have HR := Lib.hid hR
      clear hR hP
      go_wp2
      go_round
      case rel => exact ⟨k + 1, by omega, by go_num, by rw [HR.out]⟩
      case measure => simp [intOf]; omega
    · go_wp2
      go_ret
      obtain rfl : k = n := by omega
      exact ⟨rfl, rfl⟩

theorem bk_more {u m v b : Nat} (hv : v < 2 ^ 63) (hb : b < Hd.bk u m v) : u + m + b < 63 ∧ pw (u + m + b) ≤ v := by
  have h1 : Hd.bl v ≤ 63 := (Hd.bl_le 63 v (by omega)).2 hv
  unfold Hd.bk at hb
  exact ⟨by omega, (Hd.bl_ge _ v (by omega)).1 (by omega)⟩
theorem bk_less {u m v : Nat} (hv : v < 2 ^ 63) : v < pw (u + m + Hd.bk u m v) := (Hd.bl_le _ v (by omega)).1 (by unfold Hd.bk; omega)
set_option maxHeartbeats 800000 in
theorem rbucket_t (u m v : Nat) (w : World) (hum : u + m ≤ 62) (hv : v < 2 ^ 63) :
    Calls Try.prog 19 #[.int .i64 (u : Int), .int .i64 (m : Int), .int .i64 (v : Int)] w fun e w' => e = .returned (.int .i64 (Hd.bk u m v : Nat)) ∧ w' = w := by
  have hv2 : (v : Int) ≤ 9223372036854775807 := by omega
  have hbf := Hd.bk_fit (u := u) (m := m) hv (by omega)
  have hu2 : (u : Int) ≤ 62 := by omega
  have hm2 : (m : Int) ≤ 62 := by omega
  go_enter Try.func19, Try.ntmps19
  go_wp2_with fail
  go_loop [7] (fun i => ∃ k : Nat, k ≤ Hd.bk u m v ∧ i = .int .i64 k) (fun i => Hd.bk u m v - (intOf i).toNat)
  case atStart => exact ⟨0, Nat.zero_le _, rfl⟩
  case round =>
    obtain ⟨k, hk, rfl⟩ := hrel
    have hk2 : (k : Int) ≤ 63 := by omega
    have hcall : ∀ (x : Int) (W : World), x = (u : Int) + m + k → u + m + k ≤ 63 → Calls Try.prog 17 #[.int .i64 x] W fun e w' => e = .returned (.int .u64 (pw (u + m + k) : Nat)) ∧ w' = W := fun x W hx hle => by
      rw [hx]
      have := rpow_t (u + m + k) W hle
      simpa using this
    by_cases hlt : k < Hd.bk u m v
    · obtain ⟨h1, h2⟩ := bk_more hv hlt
      have hd : decide ((u : Int) + m + k < 63) = true := by simp; omega
      have ht : decide (((pw (u + m + k) : Nat) : Int) ≤ (v : Int)) = true := by simp; omega
      go_wp2_with fail
      refine (hcall _ _ rfl (by omega)).mono ?_
      rintro e w1 ⟨rfl, rfl⟩
      go_wp2_with fail
      go_round
      case rel => exact ⟨k + 1, by omega, by go_num⟩
      case measure => simp [intOf]; omega
    · obtain rfl : k = Hd.bk u m v := by omega
      have h2 := bk_less (u := u) (m := m) hv
      by_cases h63 : u + m + Hd.bk u m v < 63
      · have hd : decide ((u : Int) + m + Hd.bk u m v < 63) = true := by simp; omega
        have ht : decide (((pw (u + m + Hd.bk u m v) : Nat) : Int) ≤ (v : Int)) = false := by simp; omega
        go_wp2_with fail
        refine (hcall _ _ rfl (by omega)).mono ?_
        rintro e w1 ⟨rfl, rfl⟩
        go_wp2_with fail
        go_ret
        exact ⟨rfl, rfl⟩
      · have hd : decide ((u : Int) + m + Hd.bk u m v < 63) = false := by simp; omega
        go_wp2_with fail
        go_ret
        exact ⟨rfl, rfl⟩

theorem rpow2_t (x : Int) (n : Nat) (w : World) (hx : x = (n : Int)) (hn : n ≤ 63) :
    Calls Try.prog 17 #[.int .i64 x] w fun e w' => e = .returned (.int .u64 (pw n : Nat)) ∧ w' = w := by
  rw [hx]; exact rpow_t n w hn
theorem size_pw {u m v : Nat} : pw (u + Hd.bk u m v) = Hd.size u m v := by
  unfold pw Hd.size; rw [Nat.add_comm]
theorem half_pw {m : Nat} : pw (m - 1) = Hd.half m := rfl
theorem ck_eq {u m v : Nat} : (v : Int) / ((pw (u + Hd.bk u m v) : Nat) : Int) = ((Hd.ck u m v : Nat) : Int) := by
  unfold Hd.ck pw
  rw [Nat.add_comm u]; push_cast; rfl
set_option maxHeartbeats 400000 in
theorem rcell_t (u m v : Nat) (w : World) (hm1 : 1 ≤ m) (hum : u + m ≤ 62) (hv : v < 2 ^ 63) :
    Calls Try.prog 28 #[.int .i64 (u : Int), .int .i64 (m : Int), .int .i64 (v : Int)] w fun e w' => e = .returned (.tuple #[.int .i64 (Hd.low u m v : Nat), .int .i64 (Hd.size u m v : Nat)]) ∧ w' = w := by
  have hv2 : (v : Int) ≤ 9223372036854775807 := by omega
  have hbf := Hd.bk_fit (u := u) (m := m) hv (by omega)
  have hu2 : (u : Int) ≤ 62 := by omega
  have hk := ck_eq (u := u) (m := m) (v := v)
  have hmul : (Hd.ck u m v : Int) * ((Hd.size u m v : Nat) : Int) = ((Hd.low u m v : Nat) : Int) := by rw [← Int.natCast_mul]; rfl
  have hcv : Hd.ck u m v ≤ v := Nat.div_le_self _ _
  have hcv2 : (Hd.ck u m v : Int) ≤ 9223372036854775807 := by omega
  have hsz : pw (u + Hd.bk u m v) = Hd.size u m v := size_pw
  have hp := Hd.size_pos (u := u) (m := m) (v := v)
  have hs2 : Hd.size u m v ≤ 2 ^ 62 := Nat.pow_le_pow_right (by omega) (by omega)
  have hl2 : Hd.low u m v ≤ v := Hd.low_le
  have hb2 : (Hd.bk u m v : Int) ≤ 63 := by omega
  have HP := fun W => rpow2_t ((u : Int) + (Hd.bk u m v : Int)) (u + Hd.bk u m v) W (Int.natCast_add _ _).symm (by omega)
  have HB := fun W => rbucket_t u m v W hum hv
  rw [hsz] at hk HP
  generalize Hd.size u m v = S at *
  generalize Hd.low u m v = L at *
  generalize Hd.ck u m v = C at *
  have hl3 : (L : Int) ≤ 9223372036854775807 := by omega
  have hs3 : (S : Int) ≤ 4611686018427387904 := by omega
  have hz : ((S : Int) == 0) = false := by simp; omega
  have hz2 : ¬ (S : Int) = 0 := by omega
  clear hs2 hsz
  go_enter Try.func28, Try.ntmps28
  go_wp2_with fail
  refine (HB _).mono ?_
  rintro e w1 ⟨rfl, rfl⟩
  go_wp2_with fail
  refine (HP _).mono ?_
  rintro e w1 ⟨rfl, rfl⟩
  go_wp2_with fail
  go_ret2
  exact ⟨rfl, rfl⟩
set_option maxHeartbeats 400000 in
theorem rindex_t (u m v : Nat) (w : World) (hm1 : 1 ≤ m) (hm : m ≤ 18) (hum : u + m ≤ 62) (hv : v < 2 ^ 63) :
    Calls Try.prog 29 #[.int .i64 (u : Int), .int .i64 (m : Int), .int .i64 (v : Int)] w fun e w' => e = .returned (.int .i64 (Hd.idx u m v : Nat)) ∧ w' = w := by
  have hv2 : (v : Int) ≤ 9223372036854775807 := by omega
  have hbf := Hd.bk_fit (u := u) (m := m) hv (by omega)
  have hu2 : (u : Int) ≤ 62 := by omega
  have hm2 : (m : Int) ≤ 18 := by omega
  have hm3 : (1 : Int) ≤ m := by omega
  have hh := Hd.half_le hm
  have hc := Hd.ck_lt (u := u) (m := m) hv
  have h2 := Hd.half_two m hm1
  have hi := Hd.idx_le (u := u) hv hm1 hm
  have hk := ck_eq (u := u) (m := m) (v := v)
  have hp : ((Hd.bk u m v : Int) + 1) * (Hd.half m : Int) = ((Hd.bk u m v * Hd.half m : Nat) : Int) + (Hd.half m : Int) := by push_cast; rw [Int.add_mul, Int.one_mul]
  have HE := Lib.hid (show ((Hd.idx u m v : Nat) : Int) = ((Hd.bk u m v * Hd.half m : Nat) : Int) + (Hd.ck u m v : Int) by unfold Hd.idx; push_cast; rfl)
  have hx : Hd.bk u m v * Hd.half m ≤ 16777216 := by unfold Hd.idx at hi; omega
  have hc2 : (Hd.ck u m v : Int) ≤ 262144 := by omega
  have hb2 : (Hd.bk u m v : Int) ≤ 63 := by omega
  have HP := fun W => rpow2_t ((u : Int) + (Hd.bk u m v : Int)) (u + Hd.bk u m v) W (Int.natCast_add _ _).symm (by omega)
  have HH := fun W => rpow2_t ((m : Int) - 1) (m - 1) W (by omega) (by omega)
  rw [half_pw] at HH
  have HB := fun W => rbucket_t u m v W hum hv
  have hS : pw (u + Hd.bk u m v) ≤ 9223372036854775808 := by rw [← pw63]; exact pw_le (by omega)
  have hS1 := pw_pos (u + Hd.bk u m v)
  rw [HE.out]
  clear HE h2 hi hc
  generalize pw (u + Hd.bk u m v) = S at *
  generalize Hd.bk u m v * Hd.half m = X at *
  have hx2 : (X : Int) ≤ 16777216 := by omega
  have hh2 : (Hd.half m : Int) ≤ 131072 := by omega
  have hs3 : (S : Int) ≤ 9223372036854775808 := by omega
  have hz : ((S : Int) == 0) = false := by simp; omega
  have hz2 : ¬ (S : Int) = 0 := by omega
  clear hx hS
  go_enter Try.func29, Try.ntmps29
  go_wp2_with fail
  refine (HB _).mono ?_
  rintro e w1 ⟨rfl, rfl⟩
  go_wp2_with fail
  refine (HH _).mono ?_
  rintro e w1 ⟨rfl, rfl⟩
  go_wp2_with fail
  refine (HP _).mono ?_
  rintro e w1 ⟨rfl, rfl⟩
  go_wp2_with fail
  go_ret
  exact ⟨ret_int (by omega), rfl⟩
set_option maxHeartbeats 400000 in
theorem rtop_big (u m k : Nat) (n : Int) (w : World) (hum : u + m ≤ 62) (hk : k ≤ 63) (hmin : min (max n 1) 64 = (k : Int) + 1) (hbig : 63 ≤ k + u + m) :
    Calls Try.prog 22 #[.int .i64 (u : Int), .int .i64 (m : Int), .int .i64 n] w fun e w' => e = .returned (.int .i64 9223372036854775807) ∧ w' = w := by
  have hd : decide ((63 : Int) ≤ (k : Int) + u + m) = true := by simp; omega
  have hk2 : (k : Int) ≤ 63 := by omega
  have hu2 : (u : Int) ≤ 62 := by omega
  have hm2 : (m : Int) ≤ 62 := by omega
  clear hbig
  go_enter Try.func22, Try.ntmps22
  go_wp2_with fail
  go_ret
  exact ⟨rfl, rfl⟩
set_option maxHeartbeats 400000 in
theorem rtop_small (u m k : Nat) (n : Int) (w : World) (hum : u + m ≤ 62) (hk : k ≤ 63) (hmin : min (max n 1) 64 = (k : Int) + 1) (hbig : k + u + m ≤ 62) :
    Calls Try.prog 22 #[.int .i64 (u : Int), .int .i64 (m : Int), .int .i64 n] w fun e w' => e = .returned (.int .i64 ((2 ^ (k + u + m) - 1 : Nat) : Int)) ∧ w' = w := by
  have hd : decide ((63 : Int) ≤ (k : Int) + u + m) = false := by simp; omega
  have hk2 : (k : Int) ≤ 63 := by omega
  have hu2 : (u : Int) ≤ 62 := by omega
  have hm2 : (m : Int) ≤ 62 := by omega
  have HP := fun W => rpow2_t ((k : Int) + u + m) (k + u + m) W (by push_cast; rfl) (by omega)
  have hpp := pw_pos (k + u + m)
  have hpl := pw_le hbig
  have h62 : pw 62 = 4611686018427387904 := by decide
  rw [h62] at hpl
  have HE := Lib.hid (show ((2 ^ (k + u + m) - 1 : Nat) : Int) = ((pw (k + u + m) : Nat) : Int) - 1 by unfold pw at *; omega)
  rw [HE.out]
  clear HE
  generalize pw (k + u + m) = S at *
  have hs3 : (S : Int) ≤ 4611686018427387904 := by omega
  have hs4 : (1 : Int) ≤ S := by omega
  clear hpl
  go_enter Try.func22, Try.ntmps22
  go_wp2_with fail
  refine (HP _).mono ?_
  rintro e w1 ⟨rfl, rfl⟩
  go_wp2_with fail
  go_ret
  exact ⟨rfl, rfl⟩
end Go.Proofs.Ytclnjhcfoggeaaa
