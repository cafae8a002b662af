/- Wire: the bytes of numbers, in plain Lean. -/
import Derived.Test.YtfeoalimkolebaaBase
namespace Go.Proofs.Ytfeoalimkolebaa
namespace Wi
def by8 (n : Nat) : UInt8 := UInt8.ofNat n
theorem by8_nat {n : Nat} (h : n < 256) : (by8 n).toNat = n := by simp only [by8, UInt8.toNat_ofNat']; omega
theorem by8_mod (n : Nat) : (by8 n).toNat = n % 256 := by simp only [by8, UInt8.toNat_ofNat']
/-- A number in groups of seven bits, the lowest first. -/
def leb (n : Nat) : List UInt8 := if h : n < 128 then [by8 n] else by8 (128 + n % 128) :: leb (n / 128)
termination_by n
decreasing_by omega
theorem leb_last {n : Nat} (h : n < 128) : leb n = [by8 n] := by rw [leb, dif_pos h]
theorem leb_more {n : Nat} (h : 128 ≤ n) : leb n = by8 (128 + n % 128) :: leb (n / 128) := by rw [leb, dif_neg (by omega)]
theorem leb_pos (n : Nat) : 0 < (leb n).length := by rw [leb]; split <;> simp
theorem leb_len : ∀ (k n : Nat), n < 128 ^ (k + 1) → (leb n).length ≤ k + 1
  | 0, n, h => by rw [leb_last (by simpa using h)]; simp
  | k + 1, n, h => by
    rcases Nat.lt_or_ge n 128 with h1 | h1
    · rw [leb_last h1]; simp
    · rw [leb_more h1, List.length_cons]
      have := leb_len k (n / 128) (by rw [Nat.pow_succ] at h; omega)
      omega
theorem leb_len64 {n : Nat} (h : n < 18446744073709551616) : (leb n).length ≤ 10 := leb_len 9 n (by omega)
/-- The same, but the ninth byte (k = 0) holds eight bits. -/
def nine : Nat → Nat → List UInt8
  | 0, n => [by8 n]
  | k + 1, n => if n < 128 then [by8 n] else by8 (128 + n % 128) :: nine k (n / 128)
theorem nine_len : ∀ (k n : Nat), (nine k n).length ≤ k + 1
  | 0, _ => by simp [nine]
  | k + 1, n => by
    rw [nine]
    split
    · simp
    · rw [List.length_cons]; have := nine_len k (n / 128); omega
/-- A number that is meant with a sign, as one without. -/
def sign (n : Nat) : Nat := if n < 9223372036854775808 then 2 * n else 2 * (18446744073709551615 - n) + 1
def unsign (n : Nat) : Nat := if n % 2 = 0 then n / 2 else 18446744073709551615 - n / 2
theorem sign_lt {n : Nat} (h : n < 18446744073709551616) : sign n < 18446744073709551616 := by unfold sign; split <;> omega
theorem unsign_lt {n : Nat} (h : n < 18446744073709551616) : unsign n < 18446744073709551616 := by unfold unsign; split <;> omega
theorem unsign_sign {n : Nat} (h : n < 18446744073709551616) : unsign (sign n) = n := by unfold sign unsign; split <;> split <;> omega
theorem sign_unsign {n : Nat} (h : n < 18446744073709551616) : sign (unsign n) = n := by unfold sign unsign; split <;> split <;> omega
/-- k bytes, the lowest first; the highest first. -/
def low : Nat → Nat → List UInt8
  | 0, _ => []
  | k + 1, n => by8 (n % 256) :: low k (n / 256)
theorem low_len (k n : Nat) : (low k n).length = k := by
  induction k generalizing n with
  | zero => rfl
  | succ k ih => rw [low, List.length_cons, ih]
def high (k n : Nat) : List UInt8 := (low k n).reverse
theorem high_len (k n : Nat) : (high k n).length = k := by unfold high; rw [List.length_reverse, low_len]
end Wi
end Go.Proofs.Ytfeoalimkolebaa
