/- HdrHistogram's cells: the methods that tell of a value's cell, of buckets. -/
import Derived.Test.YtclnjhcfoggeaaaHdrA
namespace Go.Proofs.Ytclnjhcfoggeaaa
open Go.RowKit

theorem size_eq {a b : Nat} (hb : 0 < b) : (a : Int) + ((b - 1 : Nat) : Int) - (a : Int) + 1 = (b : Int) := by omega
theorem top_eq {k : Nat} (h : k ≤ 62) : wrap64 (wrap64 ((2 : Int) ^ k) - 1) = ((2 ^ k - 1 : Nat) : Int) := by
  have h1 : 2 ^ k ≤ 2 ^ 62 := Nat.pow_le_pow_right (by omega) h
  have h2 : 0 < 2 ^ k := Nat.two_pow_pos k
  have e : (2 : Int) ^ k = ((2 ^ k : Nat) : Int) := by push_cast; rfl
  rw [e]
  unfold wrap64
  omega
set_option maxHeartbeats 400000 in
theorem of_low (g : Nat) (lo hi d : Int) (u m v : Nat) (w : World) (h : Mp w g lo hi d u m) (hm1 : 1 ≤ m) (hum : u + m ≤ 62) (hv : v < 2 ^ 63) :
    Calls Try.prog 32 #[.pointer (some ⟨g, 0, none⟩), .int .i64 (v : Int), .func (Fn.func 37) #[] #[]] w fun e w' => e = .returned (.tuple #[.int .i64 ((Hd.low u m v : Nat) : Int), .int .i64 0]) ∧ ∃ n, w' = w.drewN n := by
  have hv2 : (v : Int) ≤ 9223372036854775807 := by omega
  have HM := Lib.hid h
  clear h
  go_enter Try.func32, Try.ntmps32
  go_wp2_with fail
  refine (ends_t g lo hi d u m v _ HM.out hm1 hum hv).mono ?_
  rintro e w1 ⟨rfl, n, rfl⟩
  go_wp2
  go_ret2
  exact ⟨rfl, n, rfl⟩
set_option maxHeartbeats 400000 in
theorem low_t (g : Nat) (lo hi d : Int) (u m v : Nat) (w : World) (h : Mp w g lo hi d u m) (hm1 : 1 ≤ m) (hum : u + m ≤ 62) (hv : v < 2 ^ 63) :
    Calls Try.prog 26 #[.pointer (some ⟨g, 0, none⟩), .int .i64 (v : Int)] w fun e w' => e = .returned (.tuple #[.int .i64 ((Hd.low u m v : Nat) : Int), .int .i64 0]) ∧ ∃ n, w' = w.drewN n := by
  have HM := Lib.hid h
  clear h
  go_enter Try.func26, Try.ntmps26
  go_wp2_with fail
  refine (of_low g lo hi d u m v _ HM.out hm1 hum hv).mono ?_
  rintro e w1 ⟨rfl, n, rfl⟩
  go_wp2
  go_ret2
  exact ⟨rfl, n, rfl⟩
set_option maxHeartbeats 400000 in
theorem low_neg (g : Nat) (v : Int) (w : World) (hv : v < 0) :
    Calls Try.prog 26 #[.pointer (some ⟨g, 0, none⟩), .int .i64 v] w fun e w' => e = .returned (.tuple #[.int .i64 0, .int .i64 5]) ∧ ∃ n, w' = w.drewN n := by
  have hd : decide (v < 0) = true := by simpa using hv
  go_enter Try.func26, Try.ntmps26
  go_wp2
  go_ret2
  exact ⟨rfl, 0, rfl⟩
set_option maxHeartbeats 400000 in
theorem of_high (g : Nat) (lo hi d : Int) (u m v : Nat) (w : World) (h : Mp w g lo hi d u m) (hm1 : 1 ≤ m) (hum : u + m ≤ 62) (hv : v < 2 ^ 63) :
    Calls Try.prog 32 #[.pointer (some ⟨g, 0, none⟩), .int .i64 (v : Int), .func (Fn.func 33) #[] #[]] w fun e w' => e = .returned (.tuple #[.int .i64 ((Hd.low u m v + (Hd.size u m v - 1) : Nat) : Int), .int .i64 0]) ∧ ∃ n, w' = w.drewN n := by
  have hv2 : (v : Int) ≤ 9223372036854775807 := by omega
  have HM := Lib.hid h
  clear h
  go_enter Try.func32, Try.ntmps32
  go_wp2_with fail
  refine (ends_t g lo hi d u m v _ HM.out hm1 hum hv).mono ?_
  rintro e w1 ⟨rfl, n, rfl⟩
  go_wp2
  go_ret2
  exact ⟨congrArg (fun z => Ending.returned (.tuple #[.int .i64 z, .int .i64 0])) (Int.natCast_add _ _).symm, n, rfl⟩
set_option maxHeartbeats 400000 in
theorem high_t (g : Nat) (lo hi d : Int) (u m v : Nat) (w : World) (h : Mp w g lo hi d u m) (hm1 : 1 ≤ m) (hum : u + m ≤ 62) (hv : v < 2 ^ 63) :
    Calls Try.prog 15 #[.pointer (some ⟨g, 0, none⟩), .int .i64 (v : Int)] w fun e w' => e = .returned (.tuple #[.int .i64 ((Hd.low u m v + (Hd.size u m v - 1) : Nat) : Int), .int .i64 0]) ∧ ∃ n, w' = w.drewN n := by
  have HM := Lib.hid h
  clear h
  go_enter Try.func15, Try.ntmps15
  go_wp2_with fail
  refine (of_high g lo hi d u m v _ HM.out hm1 hum hv).mono ?_
  rintro e w1 ⟨rfl, n, rfl⟩
  go_wp2
  go_ret2
  exact ⟨rfl, n, rfl⟩
set_option maxHeartbeats 400000 in
theorem high_neg (g : Nat) (v : Int) (w : World) (hv : v < 0) :
    Calls Try.prog 15 #[.pointer (some ⟨g, 0, none⟩), .int .i64 v] w fun e w' => e = .returned (.tuple #[.int .i64 0, .int .i64 5]) ∧ ∃ n, w' = w.drewN n := by
  have hd : decide (v < 0) = true := by simpa using hv
  go_enter Try.func15, Try.ntmps15
  go_wp2
  go_ret2
  exact ⟨rfl, 0, rfl⟩
set_option maxHeartbeats 400000 in
theorem of_size (g : Nat) (lo hi d : Int) (u m v : Nat) (w : World) (h : Mp w g lo hi d u m) (hm1 : 1 ≤ m) (hum : u + m ≤ 62) (hv : v < 2 ^ 63) :
    Calls Try.prog 32 #[.pointer (some ⟨g, 0, none⟩), .int .i64 (v : Int), .func (Fn.func 38) #[] #[]] w fun e w' => e = .returned (.tuple #[.int .i64 ((Hd.size u m v : Nat) : Int), .int .i64 0]) ∧ ∃ n, w' = w.drewN n := by
  have hv2 : (v : Int) ≤ 9223372036854775807 := by omega
  have hbf := Hd.bk_fit (u := u) (m := m) hv (by omega)
  have hlh : Hd.size u m v ≤ 2 ^ 62 := Nat.pow_le_pow_right (by omega) (by omega)
  have hsp := Hd.size_pos (u := u) (m := m) (v := v)
  have HM := Lib.hid h
  clear h
  go_enter Try.func32, Try.ntmps32
  go_wp2_with fail
  refine (ends_t g lo hi d u m v _ HM.out hm1 hum hv).mono ?_
  rintro e w1 ⟨rfl, n, rfl⟩
  go_wp2
  go_ret2
  exact ⟨congrArg (fun z => Ending.returned (.tuple #[.int .i64 z, .int .i64 0])) (size_eq hsp), n, rfl⟩
set_option maxHeartbeats 400000 in
theorem size_t (g : Nat) (lo hi d : Int) (u m v : Nat) (w : World) (h : Mp w g lo hi d u m) (hm1 : 1 ≤ m) (hum : u + m ≤ 62) (hv : v < 2 ^ 63) :
    Calls Try.prog 27 #[.pointer (some ⟨g, 0, none⟩), .int .i64 (v : Int)] w fun e w' => e = .returned (.tuple #[.int .i64 ((Hd.size u m v : Nat) : Int), .int .i64 0]) ∧ ∃ n, w' = w.drewN n := by
  have HM := Lib.hid h
  clear h
  go_enter Try.func27, Try.ntmps27
  go_wp2_with fail
  refine (of_size g lo hi d u m v _ HM.out hm1 hum hv).mono ?_
  rintro e w1 ⟨rfl, n, rfl⟩
  go_wp2
  go_ret2
  exact ⟨rfl, n, rfl⟩
set_option maxHeartbeats 400000 in
theorem size_neg (g : Nat) (v : Int) (w : World) (hv : v < 0) :
    Calls Try.prog 27 #[.pointer (some ⟨g, 0, none⟩), .int .i64 v] w fun e w' => e = .returned (.tuple #[.int .i64 0, .int .i64 5]) ∧ ∃ n, w' = w.drewN n := by
  have hd : decide (v < 0) = true := by simpa using hv
  go_enter Try.func27, Try.ntmps27
  go_wp2
  go_ret2
  exact ⟨rfl, 0, rfl⟩
set_option maxHeartbeats 400000 in
theorem shape_t (g : Nat) (lo hi d : Int) (u m : Nat) (w : World) (h : Mp w g lo hi d u m) :
    Calls Try.prog 11 #[.pointer (some ⟨g, 0, none⟩)] w fun e w' => e = .returned (.agg #[.int .i64 lo, .int .i64 hi, .int .i64 d]) ∧ Below w.heap.size w w' := by
  have hg := Blk.lt h
  have c0 := h.c0
  have c1 := h.c1
  have c2 := h.c2
  clear h
  go_enter Try.func11, Try.ntmps11
  go_wp2
  exact bodyPost_ret (v := .agg #[.int .i64 lo, .int .i64 hi, .int .i64 d]) (by simp [results, Try.results11, go_sem]) rfl ⟨rfl, (Below.refl _ _).alloc (Nat.le_refl _) _⟩
theorem unit_t (g : Nat) (lo hi d : Int) (u m : Nat) (w : World) (h : Mp w g lo hi d u m) :
    Calls Try.prog 12 #[.pointer (some ⟨g, 0, none⟩)] w fun e w' => e = .returned (.int .i64 (u : Int)) ∧ w' = w := by
  have c3 := h.c3
  clear h
  go_enter Try.func12, Try.ntmps12
  go_wp2
  go_ret
  exact ⟨rfl, rfl⟩
theorem magnitude_t (g : Nat) (lo hi d : Int) (u m : Nat) (w : World) (h : Mp w g lo hi d u m) :
    Calls Try.prog 13 #[.pointer (some ⟨g, 0, none⟩)] w fun e w' => e = .returned (.int .i64 (m : Int)) ∧ w' = w := by
  have c4 := h.c4
  clear h
  go_enter Try.func13, Try.ntmps13
  go_wp2
  go_ret
  exact ⟨rfl, rfl⟩
set_option maxHeartbeats 400000 in
theorem buckets_t (g : Nat) (lo hi d : Int) (u m V : Nat) (v : Int) (w : World) (h : Mp w g lo hi d u m) (hum : u + m ≤ 62) (hv : V < 2 ^ 63) (hmax : max v 0 = (V : Int)) :
    Calls Try.prog 20 #[.pointer (some ⟨g, 0, none⟩), .int .i64 v] w fun e w' => e = .returned (.int .i64 (1 + (Hd.bk u m V : Int))) ∧ ∃ n, w' = w.drewN n := by
  have hb := Hd.bk_le (u := u) (m := m) hv
  have hb2 : (Hd.bk u m V : Int) ≤ 63 := by omega
  have HM := Lib.hid h
  clear h
  go_enter Try.func20, Try.ntmps20
  go_wp2_with fail
  refine (bucket_t g lo hi d u m V _ HM.out hum hv).mono ?_
  rintro e w1 ⟨rfl, n, rfl⟩
  go_wp2
  go_ret
  exact ⟨rfl, n, rfl⟩
set_option maxHeartbeats 400000 in
theorem cells_t (g : Nat) (lo hi d : Int) (u m N : Nat) (n : Int) (w : World) (h : Mp w g lo hi d u m) (hm1 : 1 ≤ m) (hm : m ≤ 18) (hN : N ≤ 64) (hmin : min (max n 1) 64 = (N : Int)) :
    Calls Try.prog 23 #[.pointer (some ⟨g, 0, none⟩), .int .i64 n] w fun e w' => e = .returned (.int .i64 (((N + 1) * Hd.half m : Nat) : Int)) ∧ ∃ n, w' = w.drewN n := by
  have hh := Hd.half_le hm
  have hx : (N + 1) * Hd.half m ≤ 65 * 131072 := Nat.mul_le_mul (by omega) hh
  have hp : ((N : Int) + 1) * (Hd.half m : Int) = (((N + 1) * Hd.half m : Nat) : Int) := by push_cast; rfl
  generalize (N + 1) * Hd.half m = X at *
  have hx2 : (X : Int) ≤ 8519680 := by omega
  have hN2 : (N : Int) ≤ 64 := by omega
  have HM := Lib.hid h
  clear h hx
  go_enter Try.func23, Try.ntmps23
  go_wp2_with fail
  refine (half_t g lo hi d u m _ HM.out hm1 (by omega)).mono ?_
  rintro e w1 ⟨rfl, rfl⟩
  go_wp2
  go_ret
  exact ⟨rfl, 0, rfl⟩
set_option maxHeartbeats 400000 in
theorem top_big (g : Nat) (lo hi d : Int) (u m k : Nat) (n : Int) (w : World) (h : Mp w g lo hi d u m) (hum : u + m ≤ 62) (hk : k ≤ 63) (hmin : min (max n 1) 64 = (k : Int) + 1) (hbig : 63 ≤ k + u + m) :
    Calls Try.prog 21 #[.pointer (some ⟨g, 0, none⟩), .int .i64 n] w fun e w' => e = .returned (.int .i64 9223372036854775807) ∧ ∃ n, w' = w.drewN n := by
  have c3 := h.c3
  have c4 := h.c4
  have hd : decide ((63 : Int) ≤ (k : Int) + u + m) = true := by simp; omega
  have hk2 : (k : Int) ≤ 63 := by omega
  have hu2 : (u : Int) ≤ 62 := by omega
  have hm2 : (m : Int) ≤ 62 := by omega
  clear h hbig
  go_enter Try.func21, Try.ntmps21
  go_wp2_with fail
  go_quiet (fail)
  go_wp2
  go_ret
  exact ⟨rfl, nq, rfl⟩
set_option maxHeartbeats 400000 in
theorem top_small (g : Nat) (lo hi d : Int) (u m k : Nat) (n : Int) (w : World) (h : Mp w g lo hi d u m) (hum : u + m ≤ 62) (hk : k ≤ 63) (hmin : min (max n 1) 64 = (k : Int) + 1) (hbig : k + u + m ≤ 62) :
    Calls Try.prog 21 #[.pointer (some ⟨g, 0, none⟩), .int .i64 n] w fun e w' => e = .returned (.int .i64 ((2 ^ (k + u + m) - 1 : Nat) : Int)) ∧ ∃ n, w' = w.drewN n := by
  have c3 := h.c3
  have c4 := h.c4
  have hd : decide ((63 : Int) ≤ (k : Int) + u + m) = false := by simp; omega
  have hk2 : (k : Int) ≤ 63 := by omega
  have hu2 : (u : Int) ≤ 62 := by omega
  have hm2 : (m : Int) ≤ 62 := by omega
  clear h
  go_enter Try.func21, Try.ntmps21
  go_wp2_with fail
  go_quiet (fail)
  go_wp2_with fail
  go_quiet (fail)
  go_wp2
  go_ret
  exact ⟨ret_int (top_eq hbig), _, by rw [World.drewN_drewN]⟩
end Go.Proofs.Ytclnjhcfoggeaaa
