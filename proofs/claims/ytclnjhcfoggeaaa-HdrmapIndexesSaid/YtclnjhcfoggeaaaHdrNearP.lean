/- HdrHistogram's cells: how near a cell's end is; indexes rise; a cell's neighbour; a bucket's top. Plain. -/
import Derived.Test.YtclnjhcfoggeaaaHdrIdx
namespace Go.Proofs.Ytclnjhcfoggeaaa
namespace Hd
theorem bl_mono {x y : Nat} (h : x ≤ y) (hy : y < 2 ^ 64) : bl x ≤ bl y :=
  (bl_le _ x (by omega)).2 (Nat.lt_of_le_of_lt h ((bl_le _ y hy).1 (Nat.le_refl _)))
section
variable {u m v w : Nat}
theorem idx_mono (hm : 1 ≤ m) (h : v ≤ w) (hw : w < 2 ^ 63) : idx u m v ≤ idx u m w := by
  have hv : v < 2 ^ 63 := by omega
  have hb : bk u m v ≤ bk u m w := by
    have := bl_mono h (by omega)
    unfold bk; omega
  have h2 := half_two m hm
  rcases Nat.lt_or_ge (bk u m v) (bk u m w) with hlt | hge
  · have h3 := ck_ge (u := u) (m := m) hw hm (by omega)
    have h4 := ck_lt (u := u) (m := m) hv
    have h5 : (bk u m v + 1) * half m ≤ bk u m w * half m := Nat.mul_le_mul_right _ hlt
    rw [Nat.add_mul, Nat.one_mul] at h5
    unfold idx; omega
  · have he : bk u m v = bk u m w := by omega
    have : ck u m v ≤ ck u m w := by
      unfold ck
      rw [he]
      exact Nat.div_le_div_right h
    unfold idx
    rw [he]; omega
/-- far from the cell's end: none, less than the unit, or less than the digits allow. -/
theorem near (hv : v < 2 ^ 63) (hm : 1 ≤ m) {T : Nat} (hT : 2 * T ≤ 2 ^ m) (hu : 2 ^ u ≤ low u m v + (size u m v - 1) - v) :
    1 ≤ v ∧ (low u m v + (size u m v - 1) - v) * T ≤ v - 1 := by
  have hl : low u m v ≤ v := low_le
  have hs : 0 < size u m v := size_pos
  have hb : 0 < bk u m v := by
    rcases Nat.eq_zero_or_pos (bk u m v) with h0 | h0
    · have : size u m v = 2 ^ u := by unfold size; rw [h0, Nat.zero_add]
      have h2 : v < low u m v + size u m v := v_low
      omega
    · exact h0
  have hge := v_ge (u := u) (m := m) hv hb
  have h2 := half_two m hm
  have hTh : T ≤ half m := by omega
  have e : 2 ^ (bk u m v + u + m - 1) = half m * size u m v := by
    unfold half size
    rw [← Nat.pow_add]; congr 1; omega
  have hp := half_pos m
  have h3 : (low u m v + (size u m v - 1) - v) * T ≤ (size u m v - 1) * half m := Nat.mul_le_mul (by omega) hTh
  have h4 : (size u m v - 1) * half m = half m * size u m v - half m := by
    rw [Nat.sub_mul, Nat.one_mul, Nat.mul_comm]
  have h5 : half m ≤ half m * size u m v := Nat.le_mul_of_pos_right _ hs
  omega
/-- What any bucket's cell number k reads as. -/
theorem at_bk {b k : Nat} (h63 : k * 2 ^ (b + u) < 2 ^ 63) (hm : 1 ≤ m) (hk : k < 2 ^ m) (hb : b = 0 ∨ half m ≤ k) : bk u m (k * 2 ^ (b + u)) = b ∧ ck u m (k * 2 ^ (b + u)) = k := by
  have hbk : bk u m (k * 2 ^ (b + u)) = b := by
    have hlt : k * 2 ^ (b + u) < 2 ^ (b + u + m) := by
      rw [Nat.pow_add 2 (b + u) m, Nat.mul_comm (2 ^ (b + u))]
      exact Nat.mul_lt_mul_of_pos_right hk (Nat.two_pow_pos _)
    have h1 := (bl_le (b + u + m) _ (by omega)).2 hlt
    rcases hb with h0 | h0
    · unfold bk; omega
    · have hge : 2 ^ (b + u + m - 1) ≤ k * 2 ^ (b + u) := by
        have : 2 ^ (b + u + m - 1) = half m * 2 ^ (b + u) := by
          unfold half
          rw [← Nat.pow_add]; congr 1; omega
        rw [this]
        exact Nat.mul_le_mul_right _ h0
      have h2 := (bl_ge (b + u + m - 1) _ (by omega)).2 hge
      unfold bk; omega
  refine ⟨hbk, ?_⟩
  unfold ck
  rw [hbk]
  exact Nat.mul_div_cancel _ (Nat.two_pow_pos _)
/-- The number at an index. -/
def raw (u m i : Nat) : Nat := vk m i * 2 ^ (vb m i + u)
theorem vk_range {i : Nat} (hm : 1 ≤ m) : vk m i < 2 ^ m ∧ (vb m i = 0 ∨ half m ≤ vk m i) ∧ vb m i * half m + vk m i = i := by
  have hp := half_pos m
  have h2 := half_two m hm
  have hd := Nat.div_add_mod i (half m)
  have hr := Nat.mod_lt i hp
  by_cases h0 : i / half m = 0
  · have hi : i < half m := by
      rcases Nat.div_eq_zero_iff.1 h0 with h | h <;> omega
    simp only [vb, vk, h0, if_pos]
    simp
    omega
  · simp only [vb, vk, if_neg h0]
    obtain ⟨q, hq⟩ := Nat.exists_eq_succ_of_ne_zero h0
    rw [Nat.succ_eq_add_one] at hq
    rw [hq, Nat.mul_comm, Nat.add_mul, Nat.one_mul] at hd
    rw [hq]
    refine ⟨by omega, by omega, ?_⟩
    rw [Nat.add_sub_cancel]; omega
theorem vb_le {i : Nat} (hm : 1 ≤ m) (h63 : raw u m i < 2 ^ 63) : vb m i ≤ 62 := by
  obtain ⟨_, h1, _⟩ := vk_range (i := i) hm
  rcases h1 with h1 | h1
  · omega
  · have hp := half_pos m
    have h3 : 2 ^ (vb m i + u) ≤ raw u m i := Nat.le_mul_of_pos_left _ (by omega)
    have h4 : vb m i + u < 63 := (Nat.pow_lt_pow_iff_right (by omega : 1 < 2)).1 (Nat.lt_of_le_of_lt h3 h63)
    omega
theorem raw_of {i : Nat} (hm : 1 ≤ m) (h63 : raw u m i < 2 ^ 63) : idx u m (raw u m i) = i ∧ low u m (raw u m i) = raw u m i ∧ size u m (raw u m i) = 2 ^ (vb m i + u) := by
  obtain ⟨h1, h2, h3⟩ := vk_range (i := i) hm
  obtain ⟨h4, h5⟩ := at_bk (u := u) (b := vb m i) (k := vk m i) h63 hm h1 h2
  have e : raw u m i = vk m i * 2 ^ (vb m i + u) := rfl
  rw [← e] at h4 h5
  refine ⟨?_, ?_, ?_⟩
  · unfold idx; rw [h4, h5, h3]
  · unfold low; rw [h4, h5, ← e]
  · unfold size; rw [h4]
theorem parts_unique {i b k : Nat} (hm : 1 ≤ m) (hk : k < 2 ^ m) (hb : b = 0 ∨ half m ≤ k) (he : b * half m + k = i) : vb m i = b ∧ vk m i = k := by
  obtain ⟨h1, h2, h3⟩ := vk_range (i := i) hm
  have h4 := half_two m hm
  have hp := half_pos m
  rcases Nat.lt_trichotomy (vb m i) b with hlt | heq | hgt
  · have : (vb m i + 1) * half m ≤ b * half m := Nat.mul_le_mul_right _ hlt
    rw [Nat.add_mul, Nat.one_mul] at this
    omega
  · rw [heq] at h3
    exact ⟨heq, by omega⟩
  · have : (b + 1) * half m ≤ vb m i * half m := Nat.mul_le_mul_right _ hgt
    rw [Nat.add_mul, Nat.one_mul] at this
    omega
theorem raw_succ {i : Nat} (hm : 1 ≤ m) : raw u m (i + 1) = raw u m i + 2 ^ (vb m i + u) := by
  obtain ⟨h1, h2, h3⟩ := vk_range (i := i) hm
  have h4 := half_two m hm
  by_cases hlast : vk m i + 1 < 2 ^ m
  · obtain ⟨e1, e2⟩ := parts_unique (i := i + 1) (b := vb m i) (k := vk m i + 1) hm hlast (by omega) (by omega)
    unfold raw
    rw [e1, e2, Nat.add_mul, Nat.one_mul]
  · obtain ⟨e1, e2⟩ := parts_unique (i := i + 1) (b := vb m i + 1) (k := half m) hm (by have := half_pos m; omega) (by omega) (by rw [Nat.add_mul, Nat.one_mul]; omega)
    unfold raw
    rw [e1, e2]
    have e3 : vk m i * 2 ^ (vb m i + u) + 2 ^ (vb m i + u) = (vk m i + 1) * 2 ^ (vb m i + u) := by rw [Nat.add_mul, Nat.one_mul]
    rw [e3, show vk m i + 1 = half m + half m by omega, show vb m i + 1 + u = vb m i + u + 1 by omega, Nat.pow_succ, Nat.add_mul, Nat.mul_comm (2 ^ (vb m i + u)) 2, ← Nat.mul_assoc, Nat.mul_two, Nat.add_mul]
theorem raw_bad {i : Nat} (hm1 : 1 ≤ m) (hm : m ≤ 18) (hum : u + m ≤ 62) (hq : vb m i ≤ 64) (hi : i < 2 ^ 63) : valBad u m i = true ↔ 2 ^ 63 ≤ raw u m i := valBad_iff hm1 hm hum hq hi
theorem raw_good {i : Nat} (hm1 : 1 ≤ m) (hm : m ≤ 18) (hum : u + m ≤ 62) (hi : i < 2 ^ 63) (h : valBad u m i = false) : raw u m i < 2 ^ 63 ∧ valAt u m i = raw u m i ∧ valErr u m i = 0 := by
  have hq : vb m i ≤ 64 := by
    unfold valBad at h
    simp at h
    omega
  have hb := raw_bad hm1 hm hum hq hi
  refine ⟨?_, ?_, ?_⟩
  · rw [h] at hb; simp at hb; omega
  · simp only [valAt, h]; rfl
  · simp only [valErr, h]; rfl
/-- What stands at the next index. -/
theorem raw_next {i : Nat} (hm1 : 1 ≤ m) (hm : m ≤ 18) (hum : u + m ≤ 62) (hi : i + 1 < 2 ^ 63) (h : valBad u m i = false) :
    raw u m i + (2 ^ (vb m i + u) - 1) < 2 ^ 63 ∧ (raw u m i + (2 ^ (vb m i + u) - 1) = 2 ^ 63 - 1 → valAt u m (i + 1) = 0 ∧ valErr u m (i + 1) = 5) ∧
    (raw u m i + (2 ^ (vb m i + u) - 1) ≠ 2 ^ 63 - 1 → valAt u m (i + 1) = raw u m i + (2 ^ (vb m i + u) - 1) + 1 ∧ valErr u m (i + 1) = 0) := by
  obtain ⟨h1, h2, h3⟩ := raw_good hm1 hm hum (by omega) h
  have hs := raw_succ (u := u) (i := i) hm1
  have hp : 0 < 2 ^ (vb m i + u) := Nat.two_pow_pos _
  obtain ⟨r1, r2, r3⟩ := raw_of (u := u) hm1 h1
  have hh := high_le (u := u) (m := m) h1 (by omega)
  rw [r2, r3] at hh
  have hq := vb_le (u := u) (i := i) hm1 h1
  have hq2 : vb m (i + 1) ≤ 64 := by
    have : (i + 1) / half m ≤ i / half m + 1 := by
      have hp := half_pos m
      have := Nat.div_le_div_right (c := half m) (show i + 1 ≤ i + half m by omega)
      rwa [Nat.add_div_right _ hp] at this
    unfold vb at hq ⊢; omega
  have hb := raw_bad hm1 hm hum hq2 hi
  refine ⟨by omega, fun e => ?_, fun e => ?_⟩
  · have : valBad u m (i + 1) = true := hb.2 (by omega)
    simp only [valAt, valErr, this]; exact ⟨rfl, rfl⟩
  · have : valBad u m (i + 1) = false := by
      rw [← Bool.not_eq_true, hb]; omega
    obtain ⟨_, g2, g3⟩ := raw_good hm1 hm hum hi this
    exact ⟨by omega, g3⟩
/-- A bucket's last value. -/
def top (u m b : Nat) : Nat := 2 ^ (b + u + m) - 1
theorem top_idx {b : Nat} (hm : 1 ≤ m) (h : b + u + m ≤ 63) : top u m b < 2 ^ 63 ∧ idx u m (top u m b) + 1 = (b + 2) * half m := by
  have hp : 0 < 2 ^ (b + u + m) := Nat.two_pow_pos _
  have hle : 2 ^ (b + u + m) ≤ 2 ^ 63 := Nat.pow_le_pow_right (by omega) h
  have h63 : top u m b < 2 ^ 63 := by unfold top; omega
  have h2 := half_two m hm
  have hge : 2 ^ (b + u + m - 1) ≤ top u m b := by
    have : 2 ^ (b + u + m) = 2 ^ (b + u + m - 1) * 2 := by rw [← Nat.pow_succ]; congr 1; omega
    have := Nat.two_pow_pos (b + u + m - 1)
    unfold top; omega
  have hbl : bl (top u m b) = b + u + m := bl_unique _ _ (by omega) (.inr hge) (by unfold top; omega)
  have hbk : bk u m (top u m b) = b := by unfold bk; omega
  have hck : ck u m (top u m b) + 1 = 2 ^ m := by
    have h1 : ck u m (top u m b) < 2 ^ m := ck_lt h63
    have h3 : 2 ^ m - 1 ≤ ck u m (top u m b) := by
      unfold ck
      rw [hbk, Nat.le_div_iff_mul_le (Nat.two_pow_pos _)]
      have e : 2 ^ (b + u + m) = 2 ^ m * 2 ^ (b + u) := by rw [Nat.pow_add, Nat.mul_comm]
      have hq := Nat.two_pow_pos (b + u)
      unfold top
      rw [e, Nat.sub_mul, Nat.one_mul]
      omega
    omega
  refine ⟨h63, ?_⟩
  unfold idx
  rw [hbk, Nat.add_mul]
  omega
theorem top_of (hv : v < 2 ^ 63) (hm : 1 ≤ m) (hum : u + m ≤ 62) : v ≤ top u m (bk u m v) ∧ idx u m v < (bk u m v + 2) * half m ∧ (bk u m v = 0 ∨ 1 ≤ bk u m v ∧ top u m (bk u m v - 1) < v) := by
  have h1 := v_lt (u := u) (m := m) hv
  have h2 := ck_lt (u := u) (m := m) hv
  have h3 := half_two m hm
  refine ⟨by unfold top; omega, by unfold idx; rw [Nat.add_mul]; omega, ?_⟩
  rcases Nat.eq_zero_or_pos (bk u m v) with h0 | h0
  · exact .inl h0
  · have h4 := v_ge (u := u) (m := m) hv h0
    have := Nat.two_pow_pos (bk u m v + u + m - 1)
    refine .inr ⟨h0, ?_⟩
    unfold top
    rw [show bk u m v - 1 + u + m = bk u m v + u + m - 1 by omega]
    omega
end
end Hd
end Go.Proofs.Ytclnjhcfoggeaaa
