/- HdrHistogram's cells: an index and where its cell begins, plain. -/
import Derived.Test.YtclnjhcfoggeaaaHdrE
namespace Go.Proofs.Ytclnjhcfoggeaaa
namespace Hd
section
variable {u m v i : Nat}
/-- Of a value's index: the bucket and the cell within it. -/
theorem idx_parts (hv : v < 2 ^ 63) (hm : 1 ≤ m) : vb m (idx u m v) = bk u m v ∧ vk m (idx u m v) = ck u m v := by
  have hp := half_pos m
  have h2 := half_two m hm
  have hk := ck_lt (u := u) (m := m) hv
  unfold idx
  by_cases hb : bk u m v = 0
  · rw [hb, Nat.zero_mul, Nat.zero_add]
    by_cases hs : ck u m v < half m
    · have : ck u m v / half m = 0 := Nat.div_eq_of_lt hs
      simp [vb, vk, this]
    · have h1 : ck u m v / half m = 1 := Nat.div_eq_of_lt_le (by omega) (by omega)
      have h3 : ck u m v % half m = ck u m v - half m := by
        have := Nat.div_add_mod (ck u m v) (half m)
        rw [h1] at this; omega
      simp [vb, vk, h1, h3]; omega
  · have hge := ck_ge (u := u) (m := m) hv hm (by omega)
    have e : bk u m v * half m + ck u m v = (ck u m v - half m) + half m * (bk u m v + 1) := by
      rw [Nat.mul_add, Nat.mul_comm (half m)]; omega
    have h1 : (bk u m v * half m + ck u m v) / half m = bk u m v + 1 := by
      rw [e, Nat.add_mul_div_left _ _ hp, Nat.div_eq_of_lt (by omega)]; omega
    have h3 : (bk u m v * half m + ck u m v) % half m = ck u m v - half m := by
      rw [e, Nat.add_mul_mod_self_left, Nat.mod_eq_of_lt (by omega)]
    simp only [vb, vk, h1, h3]
    constructor
    · omega
    · rw [if_neg (by omega)]; omega
theorem val_idx (hv : v < 2 ^ 63) (hm : 1 ≤ m) (hm18 : m ≤ 18) (hum : u + m ≤ 62) : valAt u m (idx u m v) = low u m v ∧ valErr u m (idx u m v) = 0 := by
  obtain ⟨h1, h2⟩ := idx_parts (u := u) hv hm
  have hi := idx_le (u := u) hv hm hm18
  have hbk := bk_le (u := u) (m := m) hv
  have hbad := valBad_iff (u := u) (i := idx u m v) hm hm18 hum (by omega) (by omega)
  have hl : low u m v ≤ v := low_le
  have e : valBad u m (idx u m v) = false := by
    rw [← Bool.not_eq_true, hbad, h1, h2]
    have : ck u m v * 2 ^ (bk u m v + u) = low u m v := rfl
    omega
  constructor
  · simp only [valAt, e, h1, h2]; rfl
  · simp [valErr, e]
end
end Hd
end Go.Proofs.Ytclnjhcfoggeaaa
