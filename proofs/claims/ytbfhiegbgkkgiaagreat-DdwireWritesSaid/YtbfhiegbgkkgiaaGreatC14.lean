/- Numbers of 128 bits: the product of two numbers of 64 bits, and its quotient by a small number, walked. -/
import Derived.Test.YtbfhiegbgkkgiaaGreatC13
import Derived.Shelf.Bits.Mul64
import Derived.Lib.Mul64
import Derived.Lib.Hide
import Derived.Deep.QuietTactic
import Derived.BigQuiet
import Derived.LoopN
import Derived.Outline
import Derived.Laws.Rows
import Derived.Laws.ResultCell
namespace Go.Proofs.YtbfhiegbgkkgiaaGreat
open Go.RowKit
set_option maxHeartbeats 1000000 in
theorem mul64_t (x y : Nat) (hx : x < 18446744073709551616) (hy : y < 18446744073709551616) (w : World) :
    Calls Tryz.prog 126 #[.int .u64 (x : Int), .int .u64 (y : Int)] w fun e w' => e = .returned (.tuple #[.int .u64 ((x * y / 18446744073709551616 : Nat) : Int), .int .u64 ((x * y % 18446744073709551616 : Nat) : Int)]) ∧ w = w' := by
  obtain ⟨bd, bt, bw, hhi⟩ := Lib.mul64_hi x y hx hy
  have ba := Lib.half_mul_le (a := x / 4294967296) (b := y / 4294967296) (by omega) (by omega)
  have bb := Lib.half_mul_le (a := x / 4294967296) (b := y % 4294967296) (by omega) (by omega)
  have bc := Lib.half_mul_le (a := x % 4294967296) (b := y / 4294967296) (by omega) (by omega)
  have ba' : x / 4294967296 * (y / 4294967296) < 18446744073709551616 := by omega
  have bb' : x / 4294967296 * (y % 4294967296) < 18446744073709551616 := by omega
  have bc' : x % 4294967296 * (y / 4294967296) < 18446744073709551616 := by omega
  have bh1 : x / 4294967296 * (y / 4294967296) + (x / 4294967296 * (y % 4294967296) + x % 4294967296 * (y % 4294967296) / 4294967296) / 4294967296 < 18446744073709551616 := by omega
  have bh : x / 4294967296 * (y / 4294967296) + (x / 4294967296 * (y % 4294967296) + x % 4294967296 * (y % 4294967296) / 4294967296) / 4294967296 + ((x / 4294967296 * (y % 4294967296) + x % 4294967296 * (y % 4294967296) / 4294967296) % 4294967296 + x % 4294967296 * (y / 4294967296)) / 4294967296 < 18446744073709551616 := by omega
  have HHI := Lib.hid hhi
  clear hhi
  go_enter Tryz.func126, Tryz.ntmps126
  go_wp2
  simp only [Mul64.maskN x hx, Mul64.maskN y hy, Mul64.divN, Mul64.mulN, Mul64.addN, Mul64.wrapN _ bd, Mul64.wrapN _ bb', Mul64.wrapN _ bt, Mul64.maskN _ bt, Mul64.wrapN _ bc', Mul64.wrapN _ bw, Mul64.wrapN _ ba', Mul64.wrapN _ bh1, Mul64.wrapN _ bh, Mul64.wrapM (x * y)]
  rw [HHI.out]
  go_ret2
  exact ⟨rfl, rfl⟩
theorem lz64_t (x : Nat) (w : World) (h1 : (x : Int) ≤ 18446744073709551615) :
    Calls Tryz.prog 130 #[.int .u64 (x : Int)] w fun e w' => e = .returned (.int .i64 (64 - (Lib.bitLen x : Int))) ∧ w = w' := by
  have HL := Lib.hid (len64_t (x : Int) w (by omega) h1)
  have hb : Lib.bitLen x ≤ 64 := Lib.bitLen_le x 64 (Nat.le_refl _) (by omega)
  rw [Int.toNat_natCast] at HL
  generalize Lib.bitLen x = L at *
  have hb2 : (L : Int) ≤ 64 := by omega
  go_enter Tryz.func130, Tryz.ntmps130
  go_wp2_with fail
  refine HL.out.mono ?_
  rintro e w1 ⟨rfl, hw⟩
  obtain rfl := hw.symm
  go_wp2_with fail
  go_ret
  exact ⟨rfl, rfl⟩
theorem or_sum (a b k : Nat) (hb : b < 2 ^ k) (h : a * 2 ^ k + b < 18446744073709551616) : bits .or .u64 ((a * 2 ^ k : Nat) : Int) (b : Int) = ((a * 2 ^ k + b : Nat) : Int) := by
  rw [u64_or_nat _ _ (by omega) (by omega)]
  congr 1
  rw [Nat.mul_comm]
  exact (Nat.two_pow_add_eq_or_of_lt hb a).symm
theorem and_mask (a : Nat) (ha : a < 18446744073709551616) : bits .and .u64 (a : Int) 4294967295 = ((a % 4294967296 : Nat) : Int) := Mul64.maskN a ha
theorem bitLen14 {d : Nat} (h0 : 8192 ≤ d) (h1 : d < 16384) : Lib.bitLen d = 14 := by
  have e : d / 8192 = 1 := by omega
  have h := Lib.bitLen_shift 13 d h0 (by omega)
  rw [show (2 : Nat) ^ 13 = 8192 from rfl, e] at h
  rw [h]
  rfl
set_option maxHeartbeats 1600000 in
set_option maxRecDepth 100000 in
theorem div64_50 (hi lo d : Nat) (w : World) (hh : hi ≠ 0) (h1 : hi < d) (hlo : lo < 18446744073709551616) (hd0 : 8192 ≤ d) (hd1 : d < 16384) :
    Calls Tryz.prog 127 #[.int .u64 (hi : Int), .int .u64 (lo : Int), .int .u64 (d : Int)] w fun e w' => e = .returned (.tuple #[.int .u64 (((hi * 18446744073709551616 + lo) / d : Nat) : Int), .int .u64 (((hi * 18446744073709551616 + lo) % d : Nat) : Int)]) ∧ w = w' := by
  obtain ⟨Z, un32, un1, un0, q1, r1, q0, r0, a1, a2, a3, a4, a5, a6, a7, a8, a9, b1, b2, b3, b4, b5, b6, b7, b8, b9⟩ := div_plain50 hi lo d h1 hlo hd0 hd1
  have HLZ := Lib.hid (lz64_t d w (by omega))
  rw [bitLen14 hd0 hd1] at HLZ
  rw [← b8, ← b9]
  have z1 : ((d : Int) == 0) = false := by simp; omega
  have z2 : decide ((d : Int) ≤ (hi : Int)) = false := by simp; omega
  have z2b : decide (d ≤ hi) = false := by simp; omega
  have z3 : ((hi : Int) == 0) = false := by simp; omega
  have hdl : (d : Int) < 16384 := by omega
  have hdl0 : (8192 : Int) ≤ (d : Int) := by omega
  have hhl : (hi : Int) < (d : Int) := by omega
  -- the numbers of the walk
  obtain ⟨Y, hY⟩ : ∃ Y, Y = d * 1125899906842624 := ⟨_, rfl⟩
  obtain ⟨V, hV⟩ : ∃ V, V = un1 * 4294967296 + un0 := ⟨_, rfl⟩
  obtain ⟨m1, hm1⟩ : ∃ m, m = q1 * Z := ⟨_, rfl⟩
  obtain ⟨m0, hm0⟩ : ∃ m, m = q0 * Z := ⟨_, rfl⟩
  obtain ⟨un21, hun21⟩ : ∃ m, m = r1 * 4294967296 + un1 := ⟨_, rfl⟩
  rw [← hun21] at b4 b6
  have hYl : Y < 18446744073709551616 := by omega
  have hVl : V < 18446744073709551616 := by omega
  have hYZ : Y = Z * 4294967296 := by rw [hY]; exact a1
  have e0 : (d : Int) * 1125899906842624 = (Y : Int) := by omega
  have e1 : (Y : Int) / 4294967296 = (Z : Int) := by omega
  have e2 : bits .and .u64 (Y : Int) 4294967295 = 0 := by rw [and_mask _ hYl]; omega
  have e3a := or_sum hi (lo / 16384) 50 (by omega) (by omega)
  have e3 : bits .or .u64 ((hi : Int) * 1125899906842624) ((lo : Int) / 16384) = (un32 : Int) := by
    rw [show ((hi : Int) * 1125899906842624) = ((hi * 2 ^ 50 : Nat) : Int) by omega, show ((lo : Int) / 16384) = ((lo / 16384 : Nat) : Int) by omega, e3a]
    omega
  have e4 : IntKind.u64.wrap ((lo : Int) * 1125899906842624) = (V : Int) := by rw [IntKind.wrap_u64]; omega
  have e5 : (V : Int) / 4294967296 = (un1 : Int) := by omega
  have e6 : bits .and .u64 (V : Int) 4294967295 = (un0 : Int) := by rw [and_mask _ hVl]; omega
  have e7 : (un32 : Int) / (Z : Int) = (q1 : Int) := by rw [← a9]; rfl
  have e8 : (q1 : Int) * (Z : Int) = (m1 : Int) := by rw [hm1, Int.natCast_mul]
  have hm1' : m1 + r1 = un32 := by rw [hm1, Nat.mul_comm]; exact b2
  have e9 : (un32 : Int) - (m1 : Int) = (r1 : Int) := by omega
  have f7 : (un21 : Int) / (Z : Int) = (q0 : Int) := by rw [← b4]; rfl
  have f8 : (q0 : Int) * (Z : Int) = (m0 : Int) := by rw [hm0, Int.natCast_mul]
  have hm0' : m0 + r0 = un21 := by rw [hm0, Nat.mul_comm]; exact b6
  have f9 : (un21 : Int) - (m0 : Int) = (r0 : Int) := by omega
  have g1 : (2147483648 : Int) ≤ (Z : Int) := by omega
  have g2 : (Z : Int) < 4294967296 := by omega
  have g3 : (q1 : Int) < 4294967296 := by omega
  have g4 : (un32 : Int) < 18446744073709551616 := by omega
  have g5 : (m1 : Int) ≤ (un32 : Int) := by omega
  have g6 : (r1 : Int) < 4294967296 := by omega
  have g7 : (un1 : Int) < 4294967296 := by omega
  have g8 : (q0 : Int) < 4294967296 := by omega
  have g9 : (m0 : Int) ≤ (un21 : Int) := by omega
  have g10 : (r0 : Int) < 4294967296 := by omega
  have g11 : (un21 : Int) < 18446744073709551616 := by omega
  have g12 : (Y : Int) < 18446744073709551616 := by omega
  have g13 : (un0 : Int) < 4294967296 := by omega
  have g14 : (V : Int) < 18446744073709551616 := by omega
  have hq1Y : q1 * Y = m1 * 4294967296 := by rw [hYZ, hm1, Nat.mul_assoc]
  have hq0Y : q0 * Y = m0 * 4294967296 := by rw [hYZ, hm0, Nat.mul_assoc]
  obtain ⟨X1, hX1⟩ : ∃ x, x = un32 * 4294967296 % 18446744073709551616 := ⟨_, rfl⟩
  obtain ⟨X2, hX2⟩ : ∃ x, x = (X1 + un1) % 18446744073709551616 := ⟨_, rfl⟩
  obtain ⟨X3, hX3⟩ : ∃ x, x = m1 * 4294967296 % 18446744073709551616 := ⟨_, rfl⟩
  obtain ⟨X4, hX4⟩ : ∃ x, x = un21 * 4294967296 % 18446744073709551616 := ⟨_, rfl⟩
  obtain ⟨X5, hX5⟩ : ∃ x, x = (X4 + un0) % 18446744073709551616 := ⟨_, rfl⟩
  obtain ⟨X6, hX6⟩ : ∃ x, x = m0 * 4294967296 % 18446744073709551616 := ⟨_, rfl⟩
  obtain ⟨R1, hR1⟩ : ∃ x, x = 4294967296 * r1 := ⟨_, rfl⟩
  obtain ⟨R0, hR0⟩ : ∃ x, x = 4294967296 * r0 := ⟨_, rfl⟩
  obtain ⟨W0, hW0⟩ : ∃ x, x = r0 * 4294967296 + un0 := ⟨_, rfl⟩
  obtain ⟨Q1, hQ1⟩ : ∃ x, x = q1 * 4294967296 := ⟨_, rfl⟩
  rw [← hW0]
  have i1 : IntKind.u64.wrap ((un32 : Int) * 4294967296) = (X1 : Int) := by rw [IntKind.wrap_u64]; omega
  have i2 : IntKind.u64.wrap ((X1 : Int) + (un1 : Int)) = (X2 : Int) := by rw [IntKind.wrap_u64]; omega
  have i3 : IntKind.u64.wrap ((q1 : Int) * (Y : Int)) = (X3 : Int) := by rw [← Int.natCast_mul, hq1Y, IntKind.wrap_u64]; omega
  have i4 : IntKind.u64.wrap ((X2 : Int) - (X3 : Int)) = (un21 : Int) := by rw [IntKind.wrap_u64]; omega
  have i5 : IntKind.u64.wrap ((un21 : Int) * 4294967296) = (X4 : Int) := by rw [IntKind.wrap_u64]; omega
  have i6 : IntKind.u64.wrap ((X4 : Int) + (un0 : Int)) = (X5 : Int) := by rw [IntKind.wrap_u64]; omega
  have i7 : IntKind.u64.wrap ((q0 : Int) * (Y : Int)) = (X6 : Int) := by rw [← Int.natCast_mul, hq0Y, IntKind.wrap_u64]; omega
  have i8 : IntKind.u64.wrap ((X5 : Int) - (X6 : Int)) = (W0 : Int) := by rw [IntKind.wrap_u64]; omega
  have j1 : 4294967296 * (r1 : Int) = (R1 : Int) := by omega
  have j2 : (R1 : Int) + (un1 : Int) = (un21 : Int) := by omega
  have j3 : 4294967296 * (r0 : Int) = (R0 : Int) := by omega
  have j4 : (R0 : Int) + (un0 : Int) = (W0 : Int) := by omega
  have j5 : (q1 : Int) * 4294967296 = (Q1 : Int) := by omega
  obtain ⟨QUO, hQUO⟩ : ∃ x, x = Q1 + q0 := ⟨_, rfl⟩
  have j6 : (Q1 : Int) + (q0 : Int) = (QUO : Int) := by omega
  have k1 : decide ((4294967296 : Int) ≤ (q1 : Int)) = false := by simp; omega
  have k2 : decide ((4294967296 : Int) ≤ (q0 : Int)) = false := by simp; omega
  have k3 : decide ((un21 : Int) < 0) = false := by simp
  have k4 : decide ((W0 : Int) < 0) = false := by simp
  have l1 : (R1 : Int) < 18446744073709551616 := by omega
  have l2 : (R0 : Int) < 18446744073709551616 := by omega
  have l3 : (W0 : Int) < 18446744073709551616 := by omega
  have l4 : (QUO : Int) < 18446744073709551616 := by omega
  have l5 : (Q1 : Int) < 18446744073709551616 := by omega
  have hres : q1 * 4294967296 + q0 = QUO := by rw [hQUO, hQ1]
  rw [hres]
  clear hX1 hX2 hX3 hX4 hX5 hX6 hR1 hR0 hW0 hQ1 hQUO hq1Y hq0Y hres
  clear hd0 hd1 h1 hlo a1 a2 a3 a4 a5 a6 a7 a8 a9 b1 b2 b3 b4 b5 b6 b7 b8 b9 e3a hY hV hm1 hm0 hun21 hYl hVl hYZ hm1' hm0' hh
  go_enter Tryz.func127, Tryz.ntmps127
  go_wp2_with fail
  refine HLZ.out.mono ?_
  rintro e w1 ⟨rfl, rfl⟩
  simp only [show (64 : Int) - ((14 : Nat) : Int) = 50 from rfl]
  go_wp2_with fail
  refine wp_loop_rounds 1 ?_
  rw [rounds_succ]
  go_wp2_with fail
  refine wp_loop_rounds 1 ?_
  rw [rounds_succ]
  go_wp2_with fail
  go_ret2
  exact ⟨rfl, rfl⟩
theorem bitLen13 {d : Nat} (h0 : 4096 ≤ d) (h1 : d < 8192) : Lib.bitLen d = 13 := by
  have e : d / 4096 = 1 := by omega
  have h := Lib.bitLen_shift 12 d h0 (by omega)
  rw [show (2 : Nat) ^ 12 = 4096 from rfl, e] at h
  rw [h]
  rfl
set_option maxHeartbeats 1600000 in
set_option maxRecDepth 100000 in
theorem div64_51 (hi lo d : Nat) (w : World) (hh : hi ≠ 0) (h1 : hi < d) (hlo : lo < 18446744073709551616) (hd0 : 4096 ≤ d) (hd1 : d < 8192) :
    Calls Tryz.prog 127 #[.int .u64 (hi : Int), .int .u64 (lo : Int), .int .u64 (d : Int)] w fun e w' => e = .returned (.tuple #[.int .u64 (((hi * 18446744073709551616 + lo) / d : Nat) : Int), .int .u64 (((hi * 18446744073709551616 + lo) % d : Nat) : Int)]) ∧ w = w' := by
  obtain ⟨Z, un32, un1, un0, q1, r1, q0, r0, a1, a2, a3, a4, a5, a6, a7, a8, a9, b1, b2, b3, b4, b5, b6, b7, b8, b9⟩ := div_plain51 hi lo d h1 hlo hd0 hd1
  have HLZ := Lib.hid (lz64_t d w (by omega))
  rw [bitLen13 hd0 hd1] at HLZ
  rw [← b8, ← b9]
  have z1 : ((d : Int) == 0) = false := by simp; omega
  have z2 : decide ((d : Int) ≤ (hi : Int)) = false := by simp; omega
  have z2b : decide (d ≤ hi) = false := by simp; omega
  have z3 : ((hi : Int) == 0) = false := by simp; omega
  have hdl : (d : Int) < 8192 := by omega
  have hdl0 : (4096 : Int) ≤ (d : Int) := by omega
  have hhl : (hi : Int) < (d : Int) := by omega
  -- the numbers of the walk
  obtain ⟨Y, hY⟩ : ∃ Y, Y = d * 2251799813685248 := ⟨_, rfl⟩
  obtain ⟨V, hV⟩ : ∃ V, V = un1 * 4294967296 + un0 := ⟨_, rfl⟩
  obtain ⟨m1, hm1⟩ : ∃ m, m = q1 * Z := ⟨_, rfl⟩
  obtain ⟨m0, hm0⟩ : ∃ m, m = q0 * Z := ⟨_, rfl⟩
  obtain ⟨un21, hun21⟩ : ∃ m, m = r1 * 4294967296 + un1 := ⟨_, rfl⟩
  rw [← hun21] at b4 b6
  have hYl : Y < 18446744073709551616 := by omega
  have hVl : V < 18446744073709551616 := by omega
  have hYZ : Y = Z * 4294967296 := by rw [hY]; exact a1
  have e0 : (d : Int) * 2251799813685248 = (Y : Int) := by omega
  have e1 : (Y : Int) / 4294967296 = (Z : Int) := by omega
  have e2 : bits .and .u64 (Y : Int) 4294967295 = 0 := by rw [and_mask _ hYl]; omega
  have e3a := or_sum hi (lo / 8192) 51 (by omega) (by omega)
  have e3 : bits .or .u64 ((hi : Int) * 2251799813685248) ((lo : Int) / 8192) = (un32 : Int) := by
    rw [show ((hi : Int) * 2251799813685248) = ((hi * 2 ^ 51 : Nat) : Int) by omega, show ((lo : Int) / 8192) = ((lo / 8192 : Nat) : Int) by omega, e3a]
    omega
  have e4 : IntKind.u64.wrap ((lo : Int) * 2251799813685248) = (V : Int) := by rw [IntKind.wrap_u64]; omega
  have e5 : (V : Int) / 4294967296 = (un1 : Int) := by omega
  have e6 : bits .and .u64 (V : Int) 4294967295 = (un0 : Int) := by rw [and_mask _ hVl]; omega
  have e7 : (un32 : Int) / (Z : Int) = (q1 : Int) := by rw [← a9]; rfl
  have e8 : (q1 : Int) * (Z : Int) = (m1 : Int) := by rw [hm1, Int.natCast_mul]
  have hm1' : m1 + r1 = un32 := by rw [hm1, Nat.mul_comm]; exact b2
  have e9 : (un32 : Int) - (m1 : Int) = (r1 : Int) := by omega
  have f7 : (un21 : Int) / (Z : Int) = (q0 : Int) := by rw [← b4]; rfl
  have f8 : (q0 : Int) * (Z : Int) = (m0 : Int) := by rw [hm0, Int.natCast_mul]
  have hm0' : m0 + r0 = un21 := by rw [hm0, Nat.mul_comm]; exact b6
  have f9 : (un21 : Int) - (m0 : Int) = (r0 : Int) := by omega
  have g1 : (2147483648 : Int) ≤ (Z : Int) := by omega
  have g2 : (Z : Int) < 4294967296 := by omega
  have g3 : (q1 : Int) < 4294967296 := by omega
  have g4 : (un32 : Int) < 18446744073709551616 := by omega
  have g5 : (m1 : Int) ≤ (un32 : Int) := by omega
  have g6 : (r1 : Int) < 4294967296 := by omega
  have g7 : (un1 : Int) < 4294967296 := by omega
  have g8 : (q0 : Int) < 4294967296 := by omega
  have g9 : (m0 : Int) ≤ (un21 : Int) := by omega
  have g10 : (r0 : Int) < 4294967296 := by omega
  have g11 : (un21 : Int) < 18446744073709551616 := by omega
  have g12 : (Y : Int) < 18446744073709551616 := by omega
  have g13 : (un0 : Int) < 4294967296 := by omega
  have g14 : (V : Int) < 18446744073709551616 := by omega
  have hq1Y : q1 * Y = m1 * 4294967296 := by rw [hYZ, hm1, Nat.mul_assoc]
  have hq0Y : q0 * Y = m0 * 4294967296 := by rw [hYZ, hm0, Nat.mul_assoc]
  obtain ⟨X1, hX1⟩ : ∃ x, x = un32 * 4294967296 % 18446744073709551616 := ⟨_, rfl⟩
  obtain ⟨X2, hX2⟩ : ∃ x, x = (X1 + un1) % 18446744073709551616 := ⟨_, rfl⟩
  obtain ⟨X3, hX3⟩ : ∃ x, x = m1 * 4294967296 % 18446744073709551616 := ⟨_, rfl⟩
  obtain ⟨X4, hX4⟩ : ∃ x, x = un21 * 4294967296 % 18446744073709551616 := ⟨_, rfl⟩
  obtain ⟨X5, hX5⟩ : ∃ x, x = (X4 + un0) % 18446744073709551616 := ⟨_, rfl⟩
  obtain ⟨X6, hX6⟩ : ∃ x, x = m0 * 4294967296 % 18446744073709551616 := ⟨_, rfl⟩
  obtain ⟨R1, hR1⟩ : ∃ x, x = 4294967296 * r1 := ⟨_, rfl⟩
  obtain ⟨R0, hR0⟩ : ∃ x, x = 4294967296 * r0 := ⟨_, rfl⟩
  obtain ⟨W0, hW0⟩ : ∃ x, x = r0 * 4294967296 + un0 := ⟨_, rfl⟩
  obtain ⟨Q1, hQ1⟩ : ∃ x, x = q1 * 4294967296 := ⟨_, rfl⟩
  rw [← hW0]
  have i1 : IntKind.u64.wrap ((un32 : Int) * 4294967296) = (X1 : Int) := by rw [IntKind.wrap_u64]; omega
  have i2 : IntKind.u64.wrap ((X1 : Int) + (un1 : Int)) = (X2 : Int) := by rw [IntKind.wrap_u64]; omega
  have i3 : IntKind.u64.wrap ((q1 : Int) * (Y : Int)) = (X3 : Int) := by rw [← Int.natCast_mul, hq1Y, IntKind.wrap_u64]; omega
  have i4 : IntKind.u64.wrap ((X2 : Int) - (X3 : Int)) = (un21 : Int) := by rw [IntKind.wrap_u64]; omega
  have i5 : IntKind.u64.wrap ((un21 : Int) * 4294967296) = (X4 : Int) := by rw [IntKind.wrap_u64]; omega
  have i6 : IntKind.u64.wrap ((X4 : Int) + (un0 : Int)) = (X5 : Int) := by rw [IntKind.wrap_u64]; omega
  have i7 : IntKind.u64.wrap ((q0 : Int) * (Y : Int)) = (X6 : Int) := by rw [← Int.natCast_mul, hq0Y, IntKind.wrap_u64]; omega
  have i8 : IntKind.u64.wrap ((X5 : Int) - (X6 : Int)) = (W0 : Int) := by rw [IntKind.wrap_u64]; omega
  have j1 : 4294967296 * (r1 : Int) = (R1 : Int) := by omega
  have j2 : (R1 : Int) + (un1 : Int) = (un21 : Int) := by omega
  have j3 : 4294967296 * (r0 : Int) = (R0 : Int) := by omega
  have j4 : (R0 : Int) + (un0 : Int) = (W0 : Int) := by omega
  have j5 : (q1 : Int) * 4294967296 = (Q1 : Int) := by omega
  obtain ⟨QUO, hQUO⟩ : ∃ x, x = Q1 + q0 := ⟨_, rfl⟩
  have j6 : (Q1 : Int) + (q0 : Int) = (QUO : Int) := by omega
  have k1 : decide ((4294967296 : Int) ≤ (q1 : Int)) = false := by simp; omega
  have k2 : decide ((4294967296 : Int) ≤ (q0 : Int)) = false := by simp; omega
  have k3 : decide ((un21 : Int) < 0) = false := by simp
  have k4 : decide ((W0 : Int) < 0) = false := by simp
  have l1 : (R1 : Int) < 18446744073709551616 := by omega
  have l2 : (R0 : Int) < 18446744073709551616 := by omega
  have l3 : (W0 : Int) < 18446744073709551616 := by omega
  have l4 : (QUO : Int) < 18446744073709551616 := by omega
  have l5 : (Q1 : Int) < 18446744073709551616 := by omega
  have hres : q1 * 4294967296 + q0 = QUO := by rw [hQUO, hQ1]
  rw [hres]
  clear hX1 hX2 hX3 hX4 hX5 hX6 hR1 hR0 hW0 hQ1 hQUO hq1Y hq0Y hres
  clear hd0 hd1 h1 hlo a1 a2 a3 a4 a5 a6 a7 a8 a9 b1 b2 b3 b4 b5 b6 b7 b8 b9 e3a hY hV hm1 hm0 hun21 hYl hVl hYZ hm1' hm0' hh
  go_enter Tryz.func127, Tryz.ntmps127
  go_wp2_with fail
  refine HLZ.out.mono ?_
  rintro e w1 ⟨rfl, rfl⟩
  simp only [show (64 : Int) - ((13 : Nat) : Int) = 51 from rfl]
  go_wp2_with fail
  refine wp_loop_rounds 1 ?_
  rw [rounds_succ]
  go_wp2_with fail
  refine wp_loop_rounds 1 ?_
  rw [rounds_succ]
  go_wp2_with fail
  go_ret2
  exact ⟨rfl, rfl⟩
set_option maxHeartbeats 1600000 in
set_option maxRecDepth 100000 in
theorem div64_0 (lo d : Nat) (w : World) (hlo : lo < 18446744073709551616) (hd0 : 1 ≤ d) (hd1 : d < 16384) :
    Calls Tryz.prog 127 #[.int .u64 0, .int .u64 (lo : Int), .int .u64 (d : Int)] w fun e w' => e = .returned (.tuple #[.int .u64 ((lo / d : Nat) : Int), .int .u64 ((lo % d : Nat) : Int)]) ∧ ∃ n, w' = w.drewN n := by
  have z1 : ((d : Int) == 0) = false := by simp; omega
  have z4 : ¬ (d : Int) = 0 := by omega
  have z2 : decide ((d : Int) ≤ 0) = false := by simp; omega
  have z2c : decide (d = 0) = false := by simp; omega
  have hdl : (d : Int) < 16384 := by omega
  have hdl0 : (1 : Int) ≤ (d : Int) := by omega
  obtain ⟨q, hq⟩ : ∃ q, q = lo / d := ⟨_, rfl⟩
  obtain ⟨r, hr⟩ : ∃ r, r = lo % d := ⟨_, rfl⟩
  have e1 : (lo : Int) / (d : Int) = (q : Int) := by rw [hq]; rfl
  have e2 : (lo : Int) % (d : Int) = (r : Int) := by rw [hr]; rfl
  have e3 : (lo : Int).tdiv (d : Int) = (q : Int) := by rw [Int.tdiv_eq_ediv_of_nonneg (by omega), e1]
  have e4 : (lo : Int).tmod (d : Int) = (r : Int) := by rw [Int.tmod_eq_emod_of_nonneg (by omega), e2]
  have hql : q ≤ lo := by rw [hq]; exact Nat.div_le_self _ _
  have hrl : r < d := by rw [hr]; exact Nat.mod_lt _ (by omega)
  have e5 : IntKind.u64.wrap (q : Int) = (q : Int) := by rw [IntKind.wrap_u64]; omega
  have e6 : IntKind.u64.wrap (r : Int) = (r : Int) := by rw [IntKind.wrap_u64]; omega
  rw [← hq, ← hr]
  clear hq hr hql hrl hd0 hd1 hlo
  go_enter Tryz.func127, Tryz.ntmps127
  go_wp2_with fail
  go_quiet (fail)
  go_wp2_with fail
  go_ret2
  exact ⟨rfl, _, rfl⟩
theorem div64_t (hi lo d : Nat) (w : World) (h1 : hi < d) (hlo : lo < 18446744073709551616) (hd0 : 4096 ≤ d) (hd1 : d < 16384) :
    Calls Tryz.prog 127 #[.int .u64 (hi : Int), .int .u64 (lo : Int), .int .u64 (d : Int)] w fun e w' => e = .returned (.tuple #[.int .u64 (((hi * 18446744073709551616 + lo) / d : Nat) : Int), .int .u64 (((hi * 18446744073709551616 + lo) % d : Nat) : Int)]) ∧ ∃ n, w' = w.drewN n := by
  by_cases hh : hi = 0
  · subst hh
    rw [Nat.zero_mul, Nat.zero_add]
    exact div64_0 lo d w hlo (by omega) hd1
  · by_cases h2 : d < 8192
    · exact (div64_51 hi lo d w hh h1 hlo hd0 h2).mono (fun _ _ ⟨h3, h4⟩ => ⟨h3, 0, by rw [← h4]; rfl⟩)
    · exact (div64_50 hi lo d w hh h1 hlo (by omega) hd1).mono (fun _ _ ⟨h3, h4⟩ => ⟨h3, 0, by rw [← h4]; rfl⟩)
end Go.Proofs.YtbfhiegbgkkgiaaGreat
/- Numbers of 128 bits: Mul, Div, MulDiv, walked. -/

namespace Go.Proofs.YtbfhiegbgkkgiaaGreat
open Go.RowKit
theorem wmul_t (a b : Nat) (ha : a < 18446744073709551616) (hb : b < 18446744073709551616) (w : World) :
    Calls Tryz.prog 114 #[.int .u64 (a : Int), .int .u64 (b : Int)] w fun e w' => e = .returned (.agg #[.int .u64 ((a * b / 18446744073709551616 : Nat) : Int), .int .u64 ((a * b % 18446744073709551616 : Nat) : Int)]) ∧ Below w.heap.size w w' := by
  have HM := Lib.hid (fun W => mul64_t a b ha hb W)
  generalize a * b / 18446744073709551616 = hi at *
  generalize a * b % 18446744073709551616 = lo at *
  clear ha hb
  go_enter Tryz.func114, Tryz.ntmps114
  go_wp2_with fail
  refine (HM.out _).mono ?_
  rintro e w1 ⟨rfl, rfl⟩
  go_wp2_with fail
  refine bodyPost_ret (v := .agg #[.int .u64 (hi : Int), .int .u64 (lo : Int)]) (results_cell_row Tryz.results114 _ _ w.heap.size 179 _ (0, 0) _ rfl (heap_alloc_new _ _) Tryz.underlying179 (by rfl) (by kernel_rfl)) rfl ?_
  exact ⟨rfl, (Below.refl _ _).alloc (Nat.le_refl _) _⟩
theorem results_cell3 {P : Program} {fn : Func} {p u s : Tmp} {ty : TypeId} (h : fn.results = #[.cell p ty, .tmp u, .tmp s]) (tmps : Array Value) (w : World) (g : Nat) (t : TypeId) (cs : Array Value) (fr : Nat × Nat) (d : TypeDesc)
    (hp : tmps.getD p undef = .pointer (some ⟨g, 0, none⟩)) (hg : w.heap[g]? = some (.cells cs t fr))
    (hu : P.underlying ty = some d) (hd : (match d with | .struct _ | .array _ _ => true | _ => false) = true) (hi : (P.info? ty).map (·.size) = some cs.size) :
    (results fn tmps).run P w = .ok (.tuple #[.agg cs, tmps.getD u undef, tmps.getD s undef]) w := by
  have e : (results fn tmps).run P w = ((asAddr (tmps.getD p undef)).run P w).andThen fun a w₁ => ((loadVar ty a).run P w₁).andThen fun v w₂ => .ok (.tuple #[v, tmps.getD u undef, tmps.getD s undef]) w₂ := by
    simp only [results, h]
    simp [Sem.run_bind, Result.andThen]
  rw [e, hp]
  simp [asAddr, run_loadVar_row w g t ty cs fr d hg hu hd hi, Result.andThen]
set_option maxHeartbeats 800000 in
theorem wdiv_t (hi lo d : Nat) (w : World) (hhi : hi < 18446744073709551616) (hlo : lo < 18446744073709551616) (hd0 : 4096 ≤ d) (hd1 : d < 16384) :
    Calls Tryz.prog 115 #[.agg #[.int .u64 (hi : Int), .int .u64 (lo : Int)], .int .u64 (d : Int)] w fun e w' => e = .returned (.tuple #[.agg #[.int .u64 ((hi / d : Nat) : Int), .int .u64 (((hi % d * 18446744073709551616 + lo) / d : Nat) : Int)], .int .u64 (((hi % d * 18446744073709551616 + lo) % d : Nat) : Int), .int .i64 0]) ∧ Below w.heap.size w w' := by
  have HD := Lib.hid (fun W => div64_t (hi % d) lo d W (Nat.mod_lt _ (by omega)) hlo hd0 hd1)
  have z1 : ((d : Int) == 0) = false := by simp; omega
  have z4 : ¬ (d : Int) = 0 := by omega
  have z2c : decide (d = 0) = false := by simp; omega
  have hdl : (d : Int) < 16384 := by omega
  have hdl0 : (1 : Int) ≤ (d : Int) := by omega
  obtain ⟨q, hq⟩ : ∃ q, q = hi / d := ⟨_, rfl⟩
  obtain ⟨r, hr⟩ : ∃ r, r = hi % d := ⟨_, rfl⟩
  have e1 : (hi : Int) / (d : Int) = (q : Int) := by rw [hq]; rfl
  have e2 : (hi : Int) % (d : Int) = (r : Int) := by rw [hr]; rfl
  have e3 : (hi : Int).tdiv (d : Int) = (q : Int) := by rw [Int.tdiv_eq_ediv_of_nonneg (by omega), e1]
  have e4 : (hi : Int).tmod (d : Int) = (r : Int) := by rw [Int.tmod_eq_emod_of_nonneg (by omega), e2]
  have hql : q ≤ hi := by rw [hq]; exact Nat.div_le_self _ _
  have hrl : r < d := by rw [hr]; exact Nat.mod_lt _ (by omega)
  have e5 : IntKind.u64.wrap (q : Int) = (q : Int) := by rw [IntKind.wrap_u64]; omega
  have e6 : IntKind.u64.wrap (r : Int) = (r : Int) := by rw [IntKind.wrap_u64]; omega
  rw [← hq, ← hr]
  rw [← hr] at HD
  generalize (r * 18446744073709551616 + lo) / d = Q at *
  generalize (r * 18446744073709551616 + lo) % d = R at *
  clear hq hr hql hrl hd0 hd1 hlo hhi
  go_enter Tryz.func115, Tryz.ntmps115
  go_wp2_with fail
  go_quiet (fail)
  go_wp2_with fail
  refine (HD.out _).mono ?_
  rintro e w1 ⟨rfl, n1, rfl⟩
  go_wp2_with fail
  have hb : Blk (((((w.alloc (.cells #[.int .u64 (hi : Int), .int .u64 (lo : Int)] 179)).alloc (.cells #[.int .u64 0, .int .u64 0] 179)).drewN (nq + n1)).setCell ⟨w.heap.size + 1, 0, none⟩ (.int .u64 (q : Int))).setCell ⟨w.heap.size + 1, 1, none⟩ (.int .u64 (Q : Int))) (w.heap.size + 1) 179 #[.int .u64 (q : Int), .int .u64 (Q : Int)] := by
    have h := Blk.new (w.alloc (.cells #[.int .u64 (hi : Int), .int .u64 (lo : Int)] 179)) 179 #[.int .u64 0, .int .u64 0]
    rw [World.size_alloc] at h
    have h2 := ((h.drewN (nq + n1)).put 0 (.int .u64 (q : Int))).put 1 (.int .u64 (Q : Int))
    simpa using h2
  refine bodyPost_ret (v := .tuple #[.agg #[.int .u64 (q : Int), .int .u64 (Q : Int)], .int .u64 (R : Int), .int .i64 0]) (results_cell3 Tryz.results115 _ _ (w.heap.size + 1) 179 _ (0, 0) _ rfl hb Tryz.underlying179 (by rfl) (by kernel_rfl)) rfl ?_
  exact ⟨rfl, ((below_drewN (((Below.refl _ _).alloc (Nat.le_refl _) _).alloc (by simp) _) _).setCell (by simp) _).setCell (by simp) _⟩
theorem muldiv_plain (P d : Nat) (hd : 0 < d) : P / d = P / 18446744073709551616 / d * 18446744073709551616 + (P / 18446744073709551616 % d * 18446744073709551616 + P % 18446744073709551616) / d ∧ P % d = (P / 18446744073709551616 % d * 18446744073709551616 + P % 18446744073709551616) % d := by
  obtain ⟨hi, hhi⟩ : ∃ x, x = P / 18446744073709551616 := ⟨_, rfl⟩
  obtain ⟨lo, hlo⟩ : ∃ x, x = P % 18446744073709551616 := ⟨_, rfl⟩
  rw [← hhi, ← hlo]
  have hP : P = hi * 18446744073709551616 + lo := by omega
  have e := Nat.div_add_mod hi d
  have hP2 : P = (hi % d * 18446744073709551616 + lo) + d * (hi / d * 18446744073709551616) := by
    rw [hP]
    have : hi * 18446744073709551616 = d * (hi / d) * 18446744073709551616 + hi % d * 18446744073709551616 := by rw [← Nat.add_mul, e]
    rw [this, ← Nat.mul_assoc, Nat.add_assoc, Nat.add_comm]
  constructor
  · have h1 : P / d = ((hi % d * 18446744073709551616 + lo) + d * (hi / d * 18446744073709551616)) / d := by rw [← hP2]
    rw [h1, Nat.add_mul_div_left _ _ hd, Nat.add_comm]
  · have h1 : P % d = ((hi % d * 18446744073709551616 + lo) + d * (hi / d * 18446744073709551616)) % d := by rw [← hP2]
    rw [h1, Nat.add_mul_mod_self_left]
def mdV (P d : Nat) : Value := if P / d < 18446744073709551616 then .tuple #[.int .u64 ((P / d : Nat) : Int), .int .u64 ((P % d : Nat) : Int), .int .i64 0] else .tuple #[.int .u64 0, .int .u64 0, .int .i64 100]
set_option maxHeartbeats 1600000 in
theorem muldiv_t (a b d : Nat) (ha : a < 18446744073709551616) (hb : b < 18446744073709551616) (w : World) (hd0 : 4096 ≤ d) (hd1 : d < 16384) :
    Calls Tryz.prog 96 #[.int .u64 (a : Int), .int .u64 (b : Int), .int .u64 (d : Int)] w fun e w' => e = .returned (mdV (a * b) d) ∧ Below w.heap.size w w' := by
  have hmf : ∀ (fn : Fn) (first cap : Array Value) (w : World), (Instr.makeFunc fn first cap).run Tryz.prog w = .ok (.func fn first cap) w := fun _ _ _ _ => rfl
  obtain ⟨m1, m2⟩ := muldiv_plain (a * b) d (by omega)
  have hPl : a * b < 18446744073709551616 * 18446744073709551616 := Nat.mul_lt_mul'' ha hb
  have HM := Lib.hid (fun W => wmul_t a b ha hb W)
  have hhl : a * b / 18446744073709551616 < 18446744073709551616 := Nat.div_lt_of_lt_mul hPl
  have hll : a * b % 18446744073709551616 < 18446744073709551616 := Nat.mod_lt _ (by decide)
  unfold mdV
  rw [m1, m2]
  generalize a * b / 18446744073709551616 = hi at *
  generalize a * b % 18446744073709551616 = lo at *
  have HD := Lib.hid (fun W => wdiv_t hi lo d W hhl hll hd0 hd1)
  have hql : (hi % d * 18446744073709551616 + lo) / d < 18446744073709551616 := by
    refine Nat.div_lt_of_lt_mul ?_
    have : hi % d < d := Nat.mod_lt _ (by omega)
    have h2 : (hi % d + 1) * 18446744073709551616 ≤ d * 18446744073709551616 := Nat.mul_le_mul_right _ this
    rw [Nat.add_mul, Nat.one_mul] at h2
    omega
  generalize (hi % d * 18446744073709551616 + lo) / d = Q at *
  generalize (hi % d * 18446744073709551616 + lo) % d = R at *
  generalize hi / d = q at *
  by_cases h0 : 0 < q
  · rw [if_neg (by omega)]
    have k1 : decide ((0 : Int) < (q : Int)) = true := by simp; omega
    have k2 : decide (0 < q) = true := by simp; omega
    clear m1 m2 hPl hhl hll hql ha hb hd0 hd1 h0
    go_enter Tryz.func96, Tryz.ntmps96
    go_wp2_with fail
    refine (HM.out _).mono ?_
    rintro e w1 ⟨rfl, hb1⟩
    have HB1 := Lib.hid hb1
    clear hb1
    go_wp2_with fail
    refine (HD.out _).mono ?_
    rintro e w2 ⟨rfl, hb2⟩
    have HB2 := Lib.hid (nextB HB1.out hb2)
    clear hb2
    go_wp2_with fail
    go_ret3
    exact ⟨rfl, newB HB2.out _⟩
  · obtain rfl : q = 0 := by omega
    rw [Nat.zero_mul, Nat.zero_add, if_pos hql]
    clear m1 m2 hPl hhl hll hql ha hb hd0 hd1 h0
    go_enter Tryz.func96, Tryz.ntmps96
    go_wp2_with fail
    refine (HM.out _).mono ?_
    rintro e w1 ⟨rfl, hb1⟩
    have HB1 := Lib.hid hb1
    clear hb1
    go_wp2_with fail
    refine (HD.out _).mono ?_
    rintro e w2 ⟨rfl, hb2⟩
    have HB2 := Lib.hid (nextB HB1.out hb2)
    clear hb2
    go_wp2_with fail
    go_ret3
    exact ⟨rfl, newB HB2.out _⟩
end Go.Proofs.YtbfhiegbgkkgiaaGreat
/- Ranges of whole numbers: one range, walked. -/

namespace Go.Proofs.YtbfhiegbgkkgiaaGreat
open Go.RowKit
open Sc
theorem most_err (n : Nat) (w : World) : Calls Tryz.prog 97 #[.int .u64 (n : Int), .int .i64 100] w fun e w' => e = .returned (.int .i64 9223372036854775807) ∧ w = w' := by
  go_enter Tryz.func97, Tryz.ntmps97
  go_wp2_with fail
  go_ret
  exact ⟨rfl, rfl⟩
theorem most_ok (n : Nat) (w : World) (hn : n < 18446744073709551616) : Calls Tryz.prog 97 #[.int .u64 (n : Int), .int .i64 0] w fun e w' => e = .returned (.int .i64 ((min n 9223372036854775807 : Nat) : Int)) ∧ w = w' := by
  by_cases h : 9223372036854775807 < n
  · rw [show min n 9223372036854775807 = 9223372036854775807 by omega]
    have k1 : decide ((9223372036854775807 : Int) < (n : Int)) = true := by simp; omega
    clear h hn
    go_enter Tryz.func97, Tryz.ntmps97
    go_wp2_with fail
    go_ret
    exact ⟨rfl, rfl⟩
  · rw [show min n 9223372036854775807 = n by omega]
    have k1 : decide ((9223372036854775807 : Int) < (n : Int)) = false := by simp; omega
    have k2 : (n : Int) ≤ 9223372036854775807 := by omega
    have k3 : IntKind.i64.wrap (n : Int) = (n : Int) := IntWalk.i64_in _ ⟨by omega, by omega⟩
    have k4 : wrap64 (n : Int) = (n : Int) := by unfold wrap64; omega
    clear h hn
    go_enter Tryz.func97, Tryz.ntmps97
    go_wp2_with fail
    go_ret
    exact ⟨rfl, rfl⟩
def spV (s : Span) : Value := .agg #[.int .i64 (s.1 : Int), .int .i64 (s.2.1 : Int), .int .i64 (s.2.2 : Int)]
set_option maxHeartbeats 1600000 in
theorem from_t (g a low : Nat) (w : World) (hc : w.cell? ⟨g, 0, none⟩ = some (.int .i64 (a : Int))) (ha0 : 100 ≤ a) (ha : a ≤ 5000) (hl : low ≤ 9223372036854775807) :
    Calls Tryz.prog 72 #[.pointer (some ⟨g, 0, none⟩), .int .i64 (low : Int)] w fun e w' => e = .returned (spV (spanOf a low)) ∧ Below w.heap.size w w' := by
  have hprod : low * a ≤ 9223372036854775807 * 5000 := Nat.mul_le_mul hl ha
  have HM1 := Lib.hid (fun W => muldiv_t low a 10000 (by omega) (by omega) W (by decide) (by decide))
  have hm1 : mdV (low * a) 10000 = .tuple #[.int .u64 ((low * a / 10000 : Nat) : Int), .int .u64 ((low * a % 10000 : Nat) : Int), .int .i64 0] := by unfold mdV; rw [if_pos (by omega)]
  rw [hm1] at HM1
  have HO1 := Lib.hid (fun W => most_ok (low + low * a / 10000) W (by omega))
  have hmid : min (low + low * a / 10000) 9223372036854775807 = midOf a low := rfl
  rw [hmid] at HO1
  obtain ⟨m1, m2⟩ := mid_le (a := a) hl
  have hs : spanOf a low = (low, midOf a low, highOf a (midOf a low)) := rfl
  rw [hs]
  obtain ⟨far, hfar⟩ : ∃ f, f = low * a / 10000 := ⟨_, rfl⟩
  have hfl : (far : Int) ≤ 4611686018427387904 := by omega
  rw [← hfar] at HM1 HO1
  obtain ⟨X, hX⟩ : ∃ X, X = low + far := ⟨_, rfl⟩
  have e1 : (low : Int) + (far : Int) = (X : Int) := by omega
  have e1b : (X : Int) < 18446744073709551616 := by omega
  rw [← hX] at HO1
  generalize midOf a low = mid at *
  obtain ⟨d, hd⟩ : ∃ d, d = 10000 - a := ⟨_, rfl⟩
  have e2 : 10000 - (a : Int) = (d : Int) := by omega
  have hdl : (d : Int) ≤ 9900 := by omega
  have HM2 := Lib.hid (fun W => muldiv_t mid 10000 d (by omega) (by omega) W (by omega) (by omega))
  have hhigh : highOf a mid = min (mid * 10000 / d) 9223372036854775807 := by unfold highOf; rw [hd]
  have c0 := hc
  have hcl : g < w.heap.size := by
    rcases Nat.lt_or_ge g w.heap.size with h | h
    · exact h
    · have : w.heap[g]? = none := Array.getElem?_eq_none h
      simp [World.cell?, this] at hc
  have hcell : ∀ W, Below w.heap.size w W → W.cell? ⟨g, 0, none⟩ = some (.int .i64 (a : Int)) := fun W hW => (hW.cell (p := ⟨g, 0, none⟩) hcl).trans hc
  have HC := Lib.hid hcell
  have hal : (a : Int) ≤ 5000 := by omega
  have hlow : (low : Int) ≤ 9223372036854775807 := by omega
  have hmidl : (mid : Int) ≤ 9223372036854775807 := by omega
  have e3 : IntKind.u64.wrap (low : Int) = (low : Int) := by rw [IntKind.wrap_u64]; omega
  have e4 : IntKind.u64.wrap (a : Int) = (a : Int) := by rw [IntKind.wrap_u64]; omega
  have e5 : IntKind.u64.wrap (mid : Int) = (mid : Int) := by rw [IntKind.wrap_u64]; omega
  have e6 : IntKind.u64.wrap (d : Int) = (d : Int) := by rw [IntKind.wrap_u64]; omega
  by_cases hq : mid * 10000 / d < 18446744073709551616
  · have hm2 : mdV (mid * 10000) d = .tuple #[.int .u64 ((mid * 10000 / d : Nat) : Int), .int .u64 ((mid * 10000 % d : Nat) : Int), .int .i64 0] := by unfold mdV; rw [if_pos hq]
    rw [hm2] at HM2
    have HO2 := Lib.hid (fun W => most_ok (mid * 10000 / d) W hq)
    rw [← hhigh] at HO2
    generalize highOf a mid = high at *
    generalize mid * 10000 / d = Q at *
    generalize mid * 10000 % d = R at *
    generalize low * a % 10000 = R1 at *
    clear hprod hm1 hmid m1 m2 hs hfar hX hd hm2 hhigh hc hcell hq ha0 ha hl
    go_enter Tryz.func72, Tryz.ntmps72
    go_wp2_with fail
    refine (HM1.out _).mono ?_
    rintro e w1 ⟨rfl, hb1⟩
    have hB1 : Below w.heap.size w w1 := nextB ((Below.refl _ _).alloc (Nat.le_refl _) _) hb1
    have hk1 : Blk w1 w.heap.size 135 #[.int .i64 0, .int .i64 0, .int .i64 0] := (Blk.new w _ _).below hb1 (by simp)
    have HB1 := Lib.hid hB1
    have HK1 := Lib.hid hk1
    have c1 := HC.out w1 hB1
    clear hb1 hB1 hk1 c0
    go_wp2_with fail
    refine (HO1.out _).mono ?_
    rintro e w2 ⟨rfl, rfl⟩
    go_wp2_with fail
    refine (HM2.out _).mono ?_
    rintro e w3 ⟨rfl, hb3⟩
    have HB3 := Lib.hid (nextB HB1.out hb3)
    have hk3 := HK1.out.below hb3 HK1.out.lt
    have d0 : w3.cell? ⟨w.heap.size, 0, none⟩ = some (.int .i64 0) := by rw [hk3.cell]; rfl
    have d1 : w3.cell? ⟨w.heap.size, 1, none⟩ = some (.int .i64 0) := by rw [hk3.cell]; rfl
    have d2 : w3.cell? ⟨w.heap.size, 2, none⟩ = some (.int .i64 0) := by rw [hk3.cell]; rfl
    have f0 := hk3.free 0
    have f1 := hk3.free 1
    have f2 := hk3.free 2
    have HK3 := Lib.hid hk3
    clear hb3 hk3 c1
    go_wp2_with fail
    refine (HO2.out _).mono ?_
    rintro e w4 ⟨rfl, rfl⟩
    go_wp2_with fail
    have hbk : Blk (((w3.setCell ⟨w.heap.size, 0, none⟩ (.int .i64 (low : Int))).setCell ⟨w.heap.size, 1, none⟩ (.int .i64 (mid : Int))).setCell ⟨w.heap.size, 2, none⟩ (.int .i64 (high : Int))) w.heap.size 135 #[.int .i64 (low : Int), .int .i64 (mid : Int), .int .i64 (high : Int)] := by
      have h := ((HK3.out.put 0 (.int .i64 (low : Int))).put 1 (.int .i64 (mid : Int))).put 2 (.int .i64 (high : Int))
      simpa using h
    refine bodyPost_ret (v := .agg #[.int .i64 (low : Int), .int .i64 (mid : Int), .int .i64 (high : Int)]) (results_cell_row Tryz.results72 _ _ w.heap.size 135 _ (0, 0) _ rfl hbk Tryz.underlying135 (by rfl) (by kernel_rfl)) rfl ?_
    exact ⟨rfl, ((HB3.out.setCell (Nat.le_refl _) _).setCell (Nat.le_refl _) _).setCell (Nat.le_refl _) _⟩
  · have hm2 : mdV (mid * 10000) d = .tuple #[.int .u64 0, .int .u64 0, .int .i64 100] := by unfold mdV; rw [if_neg hq]
    rw [hm2] at HM2
    have hh : highOf a mid = 9223372036854775807 := by rw [hhigh]; omega
    rw [hh]
    have HO2 := Lib.hid (fun W => most_err 0 W)
    generalize low * a % 10000 = R1 at *
    clear hprod hm1 hmid m1 m2 hs hfar hX hd hm2 hhigh hc hcell hq ha0 ha hl hh
    go_enter Tryz.func72, Tryz.ntmps72
    go_wp2_with fail
    refine (HM1.out _).mono ?_
    rintro e w1 ⟨rfl, hb1⟩
    have hB1 : Below w.heap.size w w1 := nextB ((Below.refl _ _).alloc (Nat.le_refl _) _) hb1
    have hk1 : Blk w1 w.heap.size 135 #[.int .i64 0, .int .i64 0, .int .i64 0] := (Blk.new w _ _).below hb1 (by simp)
    have HB1 := Lib.hid hB1
    have HK1 := Lib.hid hk1
    have c1 := HC.out w1 hB1
    clear hb1 hB1 hk1 c0
    go_wp2_with fail
    refine (HO1.out _).mono ?_
    rintro e w2 ⟨rfl, rfl⟩
    go_wp2_with fail
    refine (HM2.out _).mono ?_
    rintro e w3 ⟨rfl, hb3⟩
    have HB3 := Lib.hid (nextB HB1.out hb3)
    have hk3 := HK1.out.below hb3 HK1.out.lt
    have d0 : w3.cell? ⟨w.heap.size, 0, none⟩ = some (.int .i64 0) := by rw [hk3.cell]; rfl
    have d1 : w3.cell? ⟨w.heap.size, 1, none⟩ = some (.int .i64 0) := by rw [hk3.cell]; rfl
    have d2 : w3.cell? ⟨w.heap.size, 2, none⟩ = some (.int .i64 0) := by rw [hk3.cell]; rfl
    have f0 := hk3.free 0
    have f1 := hk3.free 1
    have f2 := hk3.free 2
    have HK3 := Lib.hid hk3
    clear hb3 hk3 c1
    go_wp2_with fail
    refine (HO2.out _).mono ?_
    rintro e w4 ⟨rfl, rfl⟩
    go_wp2_with fail
    have hbk : Blk (((w3.setCell ⟨w.heap.size, 0, none⟩ (.int .i64 (low : Int))).setCell ⟨w.heap.size, 1, none⟩ (.int .i64 (mid : Int))).setCell ⟨w.heap.size, 2, none⟩ (.int .i64 9223372036854775807)) w.heap.size 135 #[.int .i64 (low : Int), .int .i64 (mid : Int), .int .i64 9223372036854775807] := by
      have h := ((HK3.out.put 0 (.int .i64 (low : Int))).put 1 (.int .i64 (mid : Int))).put 2 (.int .i64 9223372036854775807)
      simpa using h
    refine bodyPost_ret (v := .agg #[.int .i64 (low : Int), .int .i64 (mid : Int), .int .i64 9223372036854775807]) (results_cell_row Tryz.results72 _ _ w.heap.size 135 _ (0, 0) _ rfl hbk Tryz.underlying135 (by rfl) (by kernel_rfl)) rfl ?_
    exact ⟨rfl, ((HB3.out.setCell (Nat.le_refl _) _).setCell (Nat.le_refl _) _).setCell (Nat.le_refl _) _⟩
end Go.Proofs.YtbfhiegbgkkgiaaGreat
