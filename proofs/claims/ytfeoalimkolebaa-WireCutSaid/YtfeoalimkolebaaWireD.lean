/- Wire: signs walked. -/
import Derived.Test.YtfeoalimkolebaaWireC
import Derived.Laws.DeepNot64
namespace Go.Proofs.Ytfeoalimkolebaa
open Go.RowKit
open Wi
/-- The number as one with a sign. -/
def sg (n : Nat) : Int := if n < 9223372036854775808 then (n : Int) else (n : Int) - 18446744073709551616
theorem xor_ones {a : Nat} (h : a < 18446744073709551616) : a ^^^ 18446744073709551615 = 18446744073709551615 - a := by
  have := congrArg BitVec.toNat (BitVec.xor_allOnes (x := BitVec.ofNat 64 a))
  rw [BitVec.toNat_xor, BitVec.toNat_allOnes, BitVec.toNat_not, BitVec.toNat_ofNat, Nat.mod_eq_of_lt (show a < 2 ^ 64 from h)] at this
  exact this
theorem xor_i64_comm (a b : Int) : bits .xor .i64 a b = bits .xor .i64 b a := by
  show IntKind.i64.wrap ((BitVec.ofInt 64 a ^^^ BitVec.ofInt 64 b).toNat : Int) = IntKind.i64.wrap ((BitVec.ofInt 64 b ^^^ BitVec.ofInt 64 a).toNat : Int)
  rw [BitVec.xor_comm]
theorem xor_i64_zero (a : Nat) (h : a < 9223372036854775808) : bits .xor .i64 (a : Int) 0 = (a : Int) := by
  show IntKind.i64.wrap ((BitVec.ofInt 64 (a : Int) ^^^ BitVec.ofInt 64 0).toNat : Int) = _
  rw [show BitVec.ofInt 64 0 = 0#64 from rfl, BitVec.xor_zero, ofInt_u64 a (by omega)]
  exact IntWalk.i64_in _ ⟨by omega, by omega⟩
theorem sign_t (n : Nat) (w : World) (hn : n < 18446744073709551616) :
    Calls Try.prog 13 #[.int .i64 (sg n)] w fun e w' => e = .returned (.int .u64 (sign n : Nat)) ∧ w = w' := by
  unfold sg sign
  split
  · have hx : bits .xor .u64 ((n : Int) * 2) ((n : Int) / 9223372036854775808) = ((2 * n : Nat) : Int) := by
      rw [show (n : Int) * 2 = ((2 * n : Nat) : Int) by omega, show (n : Int) / 9223372036854775808 = ((0 : Nat) : Int) by omega, u64_xor_nat _ _ (by omega) (by omega), Nat.xor_zero]
    have hx2 := Lib.hid hx
    clear hx
    go_enter Try.func13, Try.ntmps13
    go_wp2_with fail
    go_ret
    exact ⟨congrArg (fun z => Ending.returned (.int .u64 z)) hx2.out, rfl⟩
  · have hx : bits .xor .u64 (IntKind.u64.wrap (IntKind.u64.wrap ((n : Int) - 18446744073709551616) * 2)) (IntKind.u64.wrap (((n : Int) - 18446744073709551616) / 9223372036854775808)) = ((2 * (18446744073709551615 - n) + 1 : Nat) : Int) := by
      rw [IntKind.wrap_u64, IntKind.wrap_u64, IntKind.wrap_u64, show ((n : Int) - 18446744073709551616) % 18446744073709551616 * 2 % 18446744073709551616 = ((2 * n - 18446744073709551616 : Nat) : Int) by omega,
        show ((n : Int) - 18446744073709551616) / 9223372036854775808 % 18446744073709551616 = ((18446744073709551615 : Nat) : Int) by omega, u64_xor_nat _ _ (by omega) (by omega), xor_ones (by omega)]
      omega
    have hx2 := Lib.hid hx
    clear hx
    go_enter Try.func13, Try.ntmps13
    go_wp2_with fail
    go_ret
    exact ⟨congrArg (fun z => Ending.returned (.int .u64 z)) hx2.out, rfl⟩
theorem and1 (n : Nat) (hn : n < 18446744073709551616) : bits .and .u64 (n : Int) 1 = ((n % 2 : Nat) : Int) := by
  rw [show (1 : Int) = ((1 : Nat) : Int) from rfl, u64_and_nat _ _ hn (by omega), nat_mask1]
theorem unsign_t (n : Nat) (w : World) (hn : n < 18446744073709551616) :
    Calls Try.prog 15 #[.int .u64 (n : Int)] w fun e w' => e = .returned (.int .i64 (sg (unsign n))) ∧ w = w' := by
  have hx : bits .xor .i64 ((n : Int) / 2) (wrap64 (-wrap64 (bits .and .u64 (n : Int) 1))) = sg (unsign n) := by
    rw [and1 n hn]
    unfold unsign
    split
    · rename_i h
      rw [h, show wrap64 (-wrap64 ((0 : Nat) : Int)) = 0 by unfold wrap64; omega, show (n : Int) / 2 = ((n / 2 : Nat) : Int) by omega, xor_i64_zero _ (by omega)]
      unfold sg
      rw [if_pos (by omega)]
    · rename_i h
      rw [show n % 2 = 1 by omega, show wrap64 (-wrap64 ((1 : Nat) : Int)) = -1 by unfold wrap64; omega, show (n : Int) / 2 = ((n / 2 : Nat) : Int) by omega, xor_i64_comm, i64_not _ (by omega)]
      unfold sg
      rw [if_neg (by omega)]
      omega
  have hx2 := Lib.hid hx
  clear hx
  go_enter Try.func15, Try.ntmps15
  go_wp2_with fail
  go_ret
  exact ⟨congrArg (fun z => Ending.returned (.int .i64 z)) hx2.out, rfl⟩
theorem rsign_t (n : Nat) (w : World) (hn : n < 18446744073709551616) :
    Calls Try.prog 14 #[.int .u64 (n : Int)] w fun e w' => e = .returned (.int .u64 (sign n : Nat)) ∧ w = w' := by
  unfold sign
  split
  · have hd : (n : Int) < 9223372036854775808 := by omega
    go_enter Try.func14, Try.ntmps14
    go_wp2_with fail
    go_ret
    exact ⟨by go_num, rfl⟩
  · have hd : ¬ (n : Int) < 9223372036854775808 := by omega
    go_enter Try.func14, Try.ntmps14
    go_wp2_with fail
    go_ret
    exact ⟨by go_num, rfl⟩
theorem runsign_t (n : Nat) (w : World) (hn : n < 18446744073709551616) :
    Calls Try.prog 16 #[.int .u64 (n : Int)] w fun e w' => e = .returned (.int .u64 (unsign n : Nat)) ∧ w = w' := by
  unfold unsign
  split
  · have hd : ((n : Int) % 2 == 0) = true := by simp; omega
    go_enter Try.func16, Try.ntmps16
    go_wp2_with fail
    go_ret
    exact ⟨by go_num, rfl⟩
  · have hd : ((n : Int) % 2 == 0) = false := by simp; omega
    go_enter Try.func16, Try.ntmps16
    go_wp2_with fail
    go_ret
    exact ⟨by go_num, rfl⟩
end Go.Proofs.Ytfeoalimkolebaa
