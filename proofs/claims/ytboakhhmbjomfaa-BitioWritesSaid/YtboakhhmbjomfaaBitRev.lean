/- Bits in the other order: what Go's library reckons, plain. -/
import Derived.Laws.BitsAllLaws
import Derived.Test.YtboakhhmbjomfaaBitPlain
namespace Go.Proofs.Ytboakhhmbjomfaa.Bt
abbrev W32 := BitVec 32
def stage (k : Nat) (m x : W32) : W32 := ((x >>> k) &&& m) ||| ((x &&& m) <<< k)
def m1 : W32 := 0x55555555#32
def m2 : W32 := 0x33333333#32
def m3 : W32 := 0x0f0f0f0f#32
def m4 : W32 := 0x00ff00ff#32
def revB (x : W32) : W32 := (stage 8 m4 x >>> 16) ||| (stage 8 m4 x <<< 16)
def rev32 (x : W32) : W32 := revB (stage 4 m3 (stage 2 m2 (stage 1 m1 x)))
theorem stage_get (k : Nat) (m x : W32) (i : Nat) : (stage k m x).getLsbD i = ((x.getLsbD (k + i) && m.getLsbD i) || (decide (i < 32) && !decide (i < k) && (x.getLsbD (i - k) && m.getLsbD (i - k)))) := by
  unfold stage
  rw [BitVec.getLsbD_or, BitVec.getLsbD_and, BitVec.getLsbD_ushiftRight, BitVec.getLsbD_shiftLeft, BitVec.getLsbD_and]
def sg1 (j : Nat) : Nat := if j / 1 % 2 = 0 then j + 1 else j - 1
theorem stage1_get (x : W32) (j : Nat) (hj : j < 32) : (stage 1 m1 x).getLsbD j = x.getLsbD (sg1 j) := by
  have hm : ∀ j, j < 32 → m1.getLsbD j = decide (j / 1 % 2 = 0) := by decide
  unfold sg1
  rw [stage_get, hm j hj]
  by_cases h : j / 1 % 2 = 0
  · rw [if_pos h, decide_eq_true h, Nat.add_comm 1 j]
    by_cases h0 : j < 1
    · simp [h0]
    · rw [hm (j - 1) (by omega), decide_eq_false (show ¬ (j - 1) / 1 % 2 = 0 by omega)]
      simp
  · rw [if_neg h, decide_eq_false h, hm (j - 1) (by omega), decide_eq_true (show (j - 1) / 1 % 2 = 0 by omega), decide_eq_true hj, decide_eq_false (show ¬ j < 1 by omega)]
    simp
def sg2 (j : Nat) : Nat := if j / 2 % 2 = 0 then j + 2 else j - 2
theorem stage2_get (x : W32) (j : Nat) (hj : j < 32) : (stage 2 m2 x).getLsbD j = x.getLsbD (sg2 j) := by
  have hm : ∀ j, j < 32 → m2.getLsbD j = decide (j / 2 % 2 = 0) := by decide
  unfold sg2
  rw [stage_get, hm j hj]
  by_cases h : j / 2 % 2 = 0
  · rw [if_pos h, decide_eq_true h, Nat.add_comm 2 j]
    by_cases h0 : j < 2
    · simp [h0]
    · rw [hm (j - 2) (by omega), decide_eq_false (show ¬ (j - 2) / 2 % 2 = 0 by omega)]
      simp
  · rw [if_neg h, decide_eq_false h, hm (j - 2) (by omega), decide_eq_true (show (j - 2) / 2 % 2 = 0 by omega), decide_eq_true hj, decide_eq_false (show ¬ j < 2 by omega)]
    simp
def sg4 (j : Nat) : Nat := if j / 4 % 2 = 0 then j + 4 else j - 4
theorem stage4_get (x : W32) (j : Nat) (hj : j < 32) : (stage 4 m3 x).getLsbD j = x.getLsbD (sg4 j) := by
  have hm : ∀ j, j < 32 → m3.getLsbD j = decide (j / 4 % 2 = 0) := by decide
  unfold sg4
  rw [stage_get, hm j hj]
  by_cases h : j / 4 % 2 = 0
  · rw [if_pos h, decide_eq_true h, Nat.add_comm 4 j]
    by_cases h0 : j < 4
    · simp [h0]
    · rw [hm (j - 4) (by omega), decide_eq_false (show ¬ (j - 4) / 4 % 2 = 0 by omega)]
      simp
  · rw [if_neg h, decide_eq_false h, hm (j - 4) (by omega), decide_eq_true (show (j - 4) / 4 % 2 = 0 by omega), decide_eq_true hj, decide_eq_false (show ¬ j < 4 by omega)]
    simp
def sg8 (j : Nat) : Nat := if j / 8 % 2 = 0 then j + 8 else j - 8
theorem stage8_get (x : W32) (j : Nat) (hj : j < 32) : (stage 8 m4 x).getLsbD j = x.getLsbD (sg8 j) := by
  have hm : ∀ j, j < 32 → m4.getLsbD j = decide (j / 8 % 2 = 0) := by decide
  unfold sg8
  rw [stage_get, hm j hj]
  by_cases h : j / 8 % 2 = 0
  · rw [if_pos h, decide_eq_true h, Nat.add_comm 8 j]
    by_cases h0 : j < 8
    · simp [h0]
    · rw [hm (j - 8) (by omega), decide_eq_false (show ¬ (j - 8) / 8 % 2 = 0 by omega)]
      simp
  · rw [if_neg h, decide_eq_false h, hm (j - 8) (by omega), decide_eq_true (show (j - 8) / 8 % 2 = 0 by omega), decide_eq_true hj, decide_eq_false (show ¬ j < 8 by omega)]
    simp
def sg16 (j : Nat) : Nat := if j < 16 then j + 16 else j - 16
theorem revB_get (x : W32) (j : Nat) (hj : j < 32) : (revB x).getLsbD j = (stage 8 m4 x).getLsbD (sg16 j) := by
  unfold revB sg16
  rw [BitVec.getLsbD_or, BitVec.getLsbD_ushiftRight, BitVec.getLsbD_shiftLeft]
  by_cases h : j < 16
  · rw [if_pos h, Nat.add_comm 16 j]
    simp [h]
  · rw [if_neg h, BitVec.getLsbD_of_ge _ _ (by omega)]
    simp [hj]
    intro h2
    omega
theorem rev32_get (x : W32) (i : Nat) (hi : i < 32) : (rev32 x).getLsbD i = x.getLsbD (31 - i) := by
  have b16 : ∀ j, j < 32 → sg16 j < 32 := by decide
  have b8 : ∀ j, j < 32 → sg8 j < 32 := by decide
  have b4 : ∀ j, j < 32 → sg4 j < 32 := by decide
  have b2 : ∀ j, j < 32 → sg2 j < 32 := by decide
  have hp : ∀ j, j < 32 → sg1 (sg2 (sg4 (sg8 (sg16 j)))) = 31 - j := by decide
  unfold rev32
  have c16 := b16 i hi
  have c8 := b8 _ c16
  have c4 := b4 _ c8
  have c2 := b2 _ c4
  rw [revB_get _ _ hi, stage8_get _ _ c16, stage4_get _ _ c8, stage2_get _ _ c4, stage1_get _ _ c2, hp i hi]
/-- What Go's library reckons is the turned number. -/
theorem rev_turn (n c : Nat) (h1 : 1 ≤ c) (h2 : c ≤ 32) : (rev32 (BitVec.ofNat 32 n)).toNat / 2 ^ (32 - c) = turnN n c := by
  apply Nat.eq_of_testBit_eq
  intro i
  rw [Nat.testBit_div_two_pow, BitVec.testBit_toNat]
  have hg := gb_get (turnN n c) c i
  rw [gb_turn] at hg
  by_cases hi : i < c
  · rw [if_pos hi, List.getElem?_reverse (by rw [gb_length]; exact hi), gb_length, gb_get, if_pos (by omega)] at hg
    rw [← Option.some.inj hg, rev32_get _ _ (by omega), BitVec.getLsbD_ofNat, decide_eq_true (by omega), Bool.true_and]
    congr 1
    omega
  · rw [BitVec.getLsbD_of_ge _ _ (by omega)]
    exact (Nat.testBit_lt_two_pow (Nat.lt_of_lt_of_le (turnN_lt n c) (Nat.pow_le_pow_right (by decide) (by omega)))).symm
theorem turn_zero (n : Nat) : turnN n 0 = 0 := rfl
/-- A step as the walk spells it. -/
theorem toNat_lt32 (x : W32) : x.toNat < 4294967296 := x.isLt
open Go in
theorem stage_walk (k : Nat) (p : Int) (hp : p = ((2 ^ k : Nat) : Int)) (m x : W32) : bits .or .u32 (bits .and .u32 ((x.toNat : Int) / p) (m.toNat : Int)) (bits .and .u32 (x.toNat : Int) (m.toNat : Int) * p % 4294967296) = ((stage k m x).toNat : Int) := by
  have e1 : ((x.toNat : Int) / p) = ((x >>> k).toNat : Int) := by
    rw [BitVec.toNat_ushiftRight, Nat.shiftRight_eq_div_pow, hp]
    rfl
  have e2 : bits .and .u32 ((x >>> k).toNat : Int) (m.toNat : Int) = (((x >>> k) &&& m).toNat : Int) := by
    rw [u32_and_nat _ _ (toNat_lt32 _) (toNat_lt32 _), BitVec.toNat_and]
  have e3 : bits .and .u32 (x.toNat : Int) (m.toNat : Int) = ((x &&& m).toNat : Int) := by
    rw [u32_and_nat _ _ (toNat_lt32 _) (toNat_lt32 _), BitVec.toNat_and]
  have e4 : ((x &&& m).toNat : Int) * p % 4294967296 = (((x &&& m) <<< k).toNat : Int) := by
    rw [BitVec.toNat_shiftLeft, Nat.shiftLeft_eq, hp]
    have : (2 : Nat) ^ 32 = 4294967296 := by decide
    rw [this]
    simp
  rw [e1, e2, e3, e4, u32_or_nat _ _ (toNat_lt32 _) (toNat_lt32 _), ← BitVec.toNat_or]
  rfl
open Go in
theorem revB_walk (x y : W32) (hy : y = stage 8 m4 x) : bits .or .u32 ((y.toNat : Int) / 65536) ((y.toNat : Int) * 65536 % 4294967296) = ((revB x).toNat : Int) := by
  have e1 : ((y.toNat : Int) / (65536 : Int)) = ((y >>> 16).toNat : Int) := by
    rw [BitVec.toNat_ushiftRight, Nat.shiftRight_eq_div_pow]
    rfl
  have e4 : (y.toNat : Int) * (65536 : Int) % (4294967296 : Int) = ((y <<< 16).toNat : Int) := by
    rw [BitVec.toNat_shiftLeft, Nat.shiftLeft_eq]
    have : (2 : Nat) ^ 32 = 4294967296 := by decide
    rw [this]
    simp
  rw [e1, e4, u32_or_nat _ _ (toNat_lt32 _) (toNat_lt32 _), ← BitVec.toNat_or, hy]
  rfl
end Go.Proofs.Ytboakhhmbjomfaa.Bt
