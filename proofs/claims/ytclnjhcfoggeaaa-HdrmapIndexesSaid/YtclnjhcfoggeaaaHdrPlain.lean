/- HdrHistogram's cells: plain facts on bit lengths and powers of two; no program. -/
import Derived.Lib.BitFns
namespace Go.Proofs.Ytclnjhcfoggeaaa
namespace Hd
abbrev bl (x : Nat) : Nat := Lib.bitLen x
theorem bl_zero : bl 0 = 0 := by simp [bl, Lib.bitLen, Lib.bitLenAux]
theorem bl_le : ∀ (k x : Nat), x < 2 ^ 64 → (bl x ≤ k ↔ x < 2 ^ k)
  | 0, x, hx => by
    by_cases h : x = 0
    · subst h; simp [bl_zero]
    · have := Lib.bitLen_half x h hx
      simp only [bl, this]
      constructor
      · intro h1; omega
      · intro h1; simp at h1; exact absurd h1 h
  | k + 1, x, hx => by
    by_cases h : x = 0
    · subst h; simp [bl_zero, Nat.two_pow_pos]
    · have e := Lib.bitLen_half x h hx
      have ih := bl_le k (x / 2) (by omega)
      simp only [bl] at ih
      simp only [bl, e]
      rw [Nat.pow_succ]
      omega
theorem bl_ge (k x : Nat) (hx : x < 2 ^ 64) : k < bl x ↔ 2 ^ k ≤ x := by
  have := bl_le k x hx
  omega
theorem bl_le64 (x : Nat) (hx : x < 2 ^ 64) : bl x ≤ 64 := (bl_le 64 x hx).2 hx
theorem bl_pow (n : Nat) (hn : n < 64) : bl (2 ^ n) = n + 1 := by
  have h64 : 2 ^ n < 2 ^ 64 := Nat.pow_lt_pow_right (by omega) hn
  have h1 := (bl_le (n + 1) (2 ^ n) h64).2 (Nat.pow_lt_pow_right (by omega) (by omega))
  have h2 := (bl_ge n (2 ^ n) h64).2 (Nat.le_refl _)
  omega
theorem bl_unique (k x : Nat) (hx : x < 2 ^ 64) (h0 : k = 0 ∨ 2 ^ (k - 1) ≤ x) (h1 : x < 2 ^ k) : bl x = k := by
  have a := (bl_le k x hx).2 h1
  rcases h0 with h0 | h0
  · omega
  · have b := (bl_ge (k - 1) x hx).2 h0
    omega
/-- The bucket, the cell within it, half of a bucket, the index. -/
def bk (u m v : Nat) : Nat := bl v - (u + m)
def ck (u m v : Nat) : Nat := v / 2 ^ (bk u m v + u)
def half (m : Nat) : Nat := 2 ^ (m - 1)
def idx (u m v : Nat) : Nat := bk u m v * half m + ck u m v
def low (u m v : Nat) : Nat := ck u m v * 2 ^ (bk u m v + u)
def size (u m v : Nat) : Nat := 2 ^ (bk u m v + u)
theorem half_two (m : Nat) (hm : 1 ≤ m) : half m + half m = 2 ^ m := by
  unfold half
  obtain ⟨k, rfl⟩ : ∃ k, m = k + 1 := ⟨m - 1, by omega⟩
  rw [Nat.add_sub_cancel, Nat.pow_succ]; omega
theorem half_pos (m : Nat) : 0 < half m := Nat.two_pow_pos _
section
variable {u m v : Nat}
theorem bk_fit (hv : v < 2 ^ 63) (hum : u + m ≤ 63) : bk u m v + u + m ≤ 63 := by
  have : bl v ≤ 63 := (bl_le 63 v (by omega)).2 hv
  unfold bk; omega
theorem v_lt (hv : v < 2 ^ 63) : v < 2 ^ (bk u m v + u + m) := (bl_le _ v (by omega)).1 (by unfold bk; omega)
theorem v_ge (hv : v < 2 ^ 63) (hb : 0 < bk u m v) : 2 ^ (bk u m v + u + m - 1) ≤ v := (bl_ge _ v (by omega)).1 (by unfold bk at *; omega)
theorem ck_lt (hv : v < 2 ^ 63) : ck u m v < 2 ^ m := by
  unfold ck
  rw [Nat.div_lt_iff_lt_mul (Nat.two_pow_pos _), ← Nat.pow_add, Nat.add_comm m]
  exact v_lt hv
theorem ck_ge (hv : v < 2 ^ 63) (hm : 1 ≤ m) (hb : 0 < bk u m v) : half m ≤ ck u m v := by
  unfold ck half
  rw [Nat.le_div_iff_mul_le (Nat.two_pow_pos _), ← Nat.pow_add]
  have := v_ge (u := u) (m := m) hv hb
  rwa [show bk u m v + u + m - 1 = m - 1 + (bk u m v + u) by omega] at this
theorem low_le : low u m v ≤ v := by unfold low ck; exact Nat.div_mul_le_self _ _
theorem v_low : v < low u m v + size u m v := by
  unfold low ck size
  have := Nat.lt_div_mul_add (a := v) (Nat.two_pow_pos (bk u m v + u))
  omega
theorem size_pos : 0 < size u m v := Nat.two_pow_pos _
/-- The cell ends at 2^63 at the latest. -/
theorem high_le (hv : v < 2 ^ 63) (hum : u + m ≤ 63) : low u m v + size u m v ≤ 2 ^ 63 := by
  have h1 : ck u m v + 1 ≤ 2 ^ m := ck_lt hv
  have h2 : (ck u m v + 1) * size u m v ≤ 2 ^ m * size u m v := Nat.mul_le_mul_right _ h1
  have h3 : 2 ^ m * size u m v ≤ 2 ^ 63 := by
    unfold size
    rw [← Nat.pow_add]
    exact Nat.pow_le_pow_right (by omega) (by have := bk_fit hv hum; omega)
  have h4 : (ck u m v + 1) * size u m v = low u m v + size u m v := by
    rw [Nat.add_mul, Nat.one_mul]; rfl
  omega
theorem half_le (hm : m ≤ 18) : half m ≤ 131072 := by
  unfold half
  exact Nat.le_trans (Nat.pow_le_pow_right (by omega) (show m - 1 ≤ 17 by omega)) (by decide)
theorem bk_le (hv : v < 2 ^ 63) : bk u m v ≤ 63 := by
  have : bl v ≤ 63 := (bl_le 63 v (by omega)).2 hv
  unfold bk; omega
theorem idx_le (hv : v < 2 ^ 63) (hm1 : 1 ≤ m) (hm : m ≤ 18) : idx u m v ≤ 16777216 := by
  have h1 := half_le hm
  have h2 : bk u m v * half m ≤ 63 * 131072 := Nat.mul_le_mul (bk_le hv) h1
  have h3 := ck_lt (u := u) (m := m) hv
  have h4 := half_two m hm1
  unfold idx
  omega
end
end Hd
end Go.Proofs.Ytclnjhcfoggeaaa
