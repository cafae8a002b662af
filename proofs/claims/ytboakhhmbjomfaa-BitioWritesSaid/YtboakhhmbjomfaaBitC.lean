/- Bitio: Turn, Group and Code of the writer walked. -/
import Derived.Test.YtboakhhmbjomfaaBitB
namespace Go.Proofs.Ytboakhhmbjomfaa
open Go.RowKit
open Bt
def turnI (n : Nat) (c : Int) : Nat := if 1 ≤ c ∧ c ≤ 32 then turnN n c.toNat else 0
theorem turnI_in (n c : Nat) (h : c ≤ 32) : turnI n (c : Int) = turnN n c := by
  unfold turnI
  by_cases h1 : 1 ≤ c
  · rw [if_pos (by omega)]; rfl
  · obtain rfl : c = 0 := by omega
    rfl
theorem turnI_lt (n : Nat) (c : Int) : turnI n c < 4294967296 := by
  unfold turnI
  split
  · have h1 := turnN_lt n c.toNat
    exact Nat.lt_of_lt_of_le h1 (Nat.le_trans (Nat.pow_le_pow_right (by decide) (show c.toNat ≤ 32 by omega)) (by decide))
  · decide
theorem turn_t (n : Nat) (c : Int) (w : World) (hn : n < 4294967296) (h0 : -9223372036854775808 ≤ c) (h1 : c ≤ 9223372036854775807) :
    Calls Try.prog 15 #[.int .u32 (n : Int), .int .i64 c] w fun e w' => e = .returned (.int .u32 (turnI n c : Nat)) ∧ w = w' := by
  by_cases h : 1 ≤ c ∧ c ≤ 32
  · obtain ⟨k, rfl⟩ := Int.eq_ofNat_of_zero_le (show 0 ≤ c by omega)
    have hr := rev_turn n k (by omega) (by omega)
    have HR := fun W => rev_t (BitVec.ofNat 32 n) W
    have hx : (BitVec.ofNat 32 n).toNat = n := by rw [BitVec.toNat_ofNat]; omega
    have hy := toNat_lt32 (rev32 (BitVec.ofNat 32 n))
    rw [hx] at HR
    rw [turnI_in n k (by omega)]
    generalize (rev32 (BitVec.ofNat 32 n)).toNat = y at *
    rw [← hr]
    obtain ⟨q, hq⟩ : ∃ q, q = 32 - k := ⟨_, rfl⟩
    have eq1 : (32 : Int) - (k : Int) = (q : Int) := by omega
    have eq2 : IntKind.i64.wrap ((32 : Int) - (k : Int)) = (q : Int) := by rw [eq1]; exact IntWalk.i64_in _ ⟨by omega, by omega⟩
    rw [← hq]
    have hq32 : (q : Int) ≤ 32 := by omega
    have hd : decide ((k : Int) < 1) = false := by simp; omega
    have hd2 : decide ((32 : Int) < (k : Int)) = false := by simp; omega
    have hd3 : decide (32 < k) = false := by simp; omega
    have hd4 : decide (k < 1) = false := by simp; omega
    have hyi : (y : Int) < 4294967296 := by omega
    replace HR := Lib.hid HR
    clear hr h h0 h1 hx hq
    go_enter Try.func15, Try.ntmps15
    go_wp2_with fail
    refine (HR.out _).mono ?_
    rintro e w1 ⟨rfl, rfl⟩
    go_wp2_with fail
    go_ret
    exact ⟨ret_int (by simp), rfl⟩
  · have ht : turnI n c = 0 := by unfold turnI; rw [if_neg h]
    rw [ht]
    by_cases h2 : c < 1
    · have hd : decide (c < 1) = true := by simp; omega
      clear h
      go_enter Try.func15, Try.ntmps15
      go_wp2_with fail
      go_ret
      exact ⟨rfl, rfl⟩
    · have hd : decide (c < 1) = false := by simp; omega
      have h3 : 32 < c := by omega
      clear h
      go_enter Try.func15, Try.ntmps15
      go_wp2_with fail
      go_ret
      exact ⟨rfl, rfl⟩
theorem Wrote.then {g : Nat} {A : Option Addr} {L : List Bool} {w w' w'' : World} {A' : Option Addr} (ho : Only (WK g A) w w') (hl : blockOf A' = blockOf A ∨ ∃ i, blockOf A' = some i ∧ w.heap.size ≤ i) (h : Wrote g A' L w' w'') : Wrote g A L w w'' := by
  obtain ⟨A2, c2, h1, h2, h3⟩ := h
  refine ⟨A2, c2, h1, ho.step h2 (fun i hi => ?_), ?_⟩
  · rcases hi with rfl | hi
    · exact .inl (.inl rfl)
    · rcases hl with hl | ⟨j, hj, hw⟩
      · exact .inl (.inr (hl ▸ hi))
      · rw [hj] at hi
        injection hi with hi
        exact .inr (by omega)
  · rcases h3 with h3 | ⟨j, hj, hw⟩
    · rcases hl with hl | ⟨j, hj, hw⟩
      · exact .inl (h3.trans hl)
      · exact .inr ⟨j, h3.trans hj, hw⟩
    · exact .inr ⟨j, hj, Nat.le_trans ho.size hw⟩
theorem group_no (g : Nat) (n : Nat) (c : Int) (w : World) (hn : n < 4294967296) (h0 : -9223372036854775808 ≤ c) (h1 : c ≤ 9223372036854775807) (hf : fitsB n c = false) :
    Calls Try.prog 11 #[.pointer (some ⟨g, 0, none⟩), .int .u32 (n : Int), .int .i64 c] w fun e w' => e = .returned (.int .i64 5) ∧ w = w' := by
  have HF := fun W => fits_t n c W hn h0 h1
  rw [hf] at HF
  replace HF := Lib.hid HF
  clear hf
  go_enter Try.func11, Try.ntmps11
  go_wp2_with fail
  refine (HF.out _).mono ?_
  rintro e w1 ⟨rfl, rfl⟩
  go_wp2_with fail
  go_ret
  exact ⟨rfl, rfl⟩
set_option maxHeartbeats 1600000 in
theorem group_t (g : Nat) (A : Option Addr) (c : Nat) (L : List Bool) (n k : Nat) (w : World) (h : Wri w g A c L) (hn : n < 4294967296) (hk : k ≤ 32) (hf : fitsB n (k : Int) = true) (hL : L.length + 32 ≤ 1000000000) :
    Calls Try.prog 11 #[.pointer (some ⟨g, 0, none⟩), .int .u32 (n : Int), .int .i64 (k : Int)] w fun e w' => e = .returned (.int .i64 0) ∧ Wrote g A (L ++ gb n k) w w' := by
  have HF := fun W => fits_t n (k : Int) W hn (by omega) (by omega)
  rw [hf] at HF
  replace HF := Lib.hid HF
  have H := Lib.hid h
  have hnn : (n : Int) < 4294967296 := by omega
  clear hf h
  go_enter Try.func11, Try.ntmps11
  go_wp2_with fail
  refine (HF.out _).mono ?_
  rintro e w1 ⟨rfl, rfl⟩
  go_wp2_with fail
  go_loopw [16] (fun v wr => ∃ i : Nat, i ≤ k ∧ v = .int .i64 (i : Int) ∧ Wrote g A (L ++ gb n i) w wr) (fun v _ => k - (intOf v).toNat)
  case atStart => exact ⟨0, Nat.zero_le _, rfl, A, c, by simpa [gb] using H.out, Only.refl _ _, .inl rfl⟩
  case round =>
    obtain ⟨i, hi, rfl, A1, c1, hw1, ho1, hl1⟩ := hrel
    by_cases hlt : i < k
    · have hii : (i : Int) < (k : Int) := by omega
      have hi32 : (i : Int) ≤ 32 := by omega
      have hgs := gb_snoc n i
      have hle : (gb n i).length = i := gb_length n i
      obtain ⟨m, hm⟩ : ∃ m, m = n / 2 ^ i := ⟨_, rfl⟩
      have hm2 : m < 4294967296 := by rw [hm]; exact Nat.lt_of_le_of_lt (Nat.div_le_self _ _) hn
      have em : (n : Int) / 2 ^ i = (m : Int) := by rw [hm]; simp
      rw [← hm] at hgs
      have HP := Lib.hid (put_t g A1 c1 (L ++ gb n i) m wr hw1 hm2 (by rw [List.length_append, hle]; omega))
      rw [List.append_assoc, ← hgs] at HP
      have HO := Lib.hid ho1
      have HL := Lib.hid hl1
      have HI := Lib.hid hlt
      clear hgs hle hm hw1 ho1 hl1 hlt hi
      go_wp2_with fail
      refine HP.out.mono ?_
      rintro e w2 ⟨rfl, hw2⟩
      have HW2 := Lib.hid (Wrote.then HO.out HL.out hw2)
      clear hw2
      go_wp2_with fail
      go_roundw
      case rel => exact ⟨i + 1, HI.out, by go_num, HW2.out⟩
      case measure => have := HI.out; simp [intOf]; omega
    · obtain rfl : k = i := by omega
      have HW := Lib.hid (show Wrote g A (L ++ gb n k) w wr from ⟨A1, c1, hw1, ho1, hl1⟩)
      clear hi hlt hw1 ho1 hl1
      go_wp2_with fail
      go_ret
      exact ⟨rfl, HW.out⟩
theorem code_no (g : Nat) (n : Nat) (c : Int) (w : World) (hn : n < 4294967296) (h0 : -9223372036854775808 ≤ c) (h1 : c ≤ 9223372036854775807) (hf : fitsB n c = false) :
    Calls Try.prog 10 #[.pointer (some ⟨g, 0, none⟩), .int .u32 (n : Int), .int .i64 c] w fun e w' => e = .returned (.int .i64 5) ∧ w = w' := by
  have HF := fun W => fits_t n c W hn h0 h1
  rw [hf] at HF
  replace HF := Lib.hid HF
  clear hf
  go_enter Try.func10, Try.ntmps10
  go_wp2_with fail
  refine (HF.out _).mono ?_
  rintro e w1 ⟨rfl, rfl⟩
  go_wp2_with fail
  go_ret
  exact ⟨rfl, rfl⟩
set_option maxHeartbeats 800000 in
theorem code_t (g : Nat) (A : Option Addr) (c : Nat) (L : List Bool) (n k : Nat) (w : World) (h : Wri w g A c L) (hn : n < 4294967296) (hk : k ≤ 32) (hf : fitsB n (k : Int) = true) (hL : L.length + 32 ≤ 1000000000) :
    Calls Try.prog 10 #[.pointer (some ⟨g, 0, none⟩), .int .u32 (n : Int), .int .i64 (k : Int)] w fun e w' => e = .returned (.int .i64 0) ∧ Wrote g A (L ++ (gb n k).reverse) w w' := by
  have HF := fun W => fits_t n (k : Int) W hn (by omega) (by omega)
  rw [hf] at HF
  replace HF := Lib.hid HF
  have hT := fun W => turn_t n (k : Int) W hn (by omega) (by omega)
  rw [turnI_in n k hk] at hT
  have ht := turnI_lt n (k : Int)
  rw [turnI_in n k hk] at ht
  have hff : fitsB (turnN n k) (k : Int) = true := by
    rw [fits_in hk, Nat.div_eq_of_lt (turnN_lt n k)]
    rfl
  have HG := Lib.hid (group_t g A c L (turnN n k) k w h ht hk hff hL)
  rw [gb_turn] at HG
  have HT := Lib.hid hT
  generalize turnN n k = m at *
  clear hT hff hf h
  go_enter Try.func10, Try.ntmps10
  go_wp2_with fail
  refine (HF.out _).mono ?_
  rintro e w1 ⟨rfl, rfl⟩
  go_wp2_with fail
  refine (HT.out _).mono ?_
  rintro e w1 ⟨rfl, rfl⟩
  go_wp2_with fail
  refine HG.out.mono ?_
  rintro e w1 ⟨rfl, h1⟩
  have H1 := Lib.hid h1
  clear h1
  go_wp2_with fail
  go_ret
  exact ⟨rfl, H1.out⟩
end Go.Proofs.Ytboakhhmbjomfaa
