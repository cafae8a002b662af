/- BitioTurns walked: bits in the other order are the document's; turned twice they are as they were. -/
import Derived.Test.YtboakhhmbjomfaaBitI
namespace Go.Proofs.Ytboakhhmbjomfaa
open Go.RowKit
open Bt
theorem grp_k (n k : Nat) (w : World) (hn : n < 4294967296) (hk : k ≤ 32) :
    Calls Try.prog 19 #[.int .u32 (n : Int), .int .i64 (k : Int)] w fun e w' => ∃ A c, e = .returned (.slice A k c) ∧ OwnB w' w.heap.size A c (bb (gb n k)) ∧ Below w.heap.size w w' := by
  refine (rgrp_t n k w hn hk).mono ?_
  rintro e w' ⟨A, c, rfl, h1, h2⟩
  exact ⟨A, c, by rw [bb_length, gb_length], h1, h2⟩
theorem num_k (A : Option Addr) (c : Nat) (L : List Bool) (k : Nat) (w : World) (hk : L.length = k) (hb : Bts w w.heap.size A (bb L)) (hl : k ≤ 32) :
    Calls Try.prog 18 #[.slice A k c] w fun e w' => e = .returned (.int .u32 (num L : Nat)) ∧ w = w' := by
  subst hk
  exact rnum_t A c L w hb hl
theorem turned_k (A : Option Addr) (c : Nat) (L : List Bool) (k : Nat) (w : World) (hk : L.length = k) (hb : Bts w w.heap.size A (bb L)) (hl : k ≤ 1000) :
    Calls Try.prog 20 #[.slice A k c] w fun e w' => ∃ A c, e = .returned (.slice A k c) ∧ OwnB w' w.heap.size A c (bb L.reverse) ∧ Below w.heap.size w w' := by
  subst hk
  have h := rturned_t A c (bb L) w hb (by rw [bb_length]; omega)
  rw [bb_length] at h
  refine h.mono ?_
  rintro e w' ⟨A, c, rfl, h1, h2⟩
  refine ⟨A, c, by rw [List.length_reverse, bb_length], ?_, h2⟩
  have e1 : bb L.reverse = (bb L).reverse := by simp [bb]
  rw [e1]
  exact h1
theorem turnI_out {n : Nat} {c : Int} (h : c < 0 ∨ 32 < c) : turnI n c = 0 := by
  unfold turnI
  rw [if_neg (by omega)]
set_option maxHeartbeats 1600000 in
theorem bitioTurns_walk (w : World) (a : Int) (a0 : 0 ≤ a) (a1 : a ≤ 4294967295) (c : Int) (c0 : -9223372036854775808 ≤ c) (c1 : c ≤ 9223372036854775807) :
    Calls Try.prog 4 #[.int .u32 a, .int .i64 c] w fun e w' => e = .returned (.bool true) ∧ Below w.heap.size w w' := by
  obtain ⟨n, rfl⟩ := Int.eq_ofNat_of_zero_le a0
  have hn : n < 4294967296 := by omega
  by_cases h : c < 0 ∨ 32 < c
  · have hT := fun W => turn_t n c W hn c0 c1
    rw [turnI_out h] at hT
    have HT := Lib.hid hT
    rcases h with h | h
    · have hd : decide (c < 0) = true := by simp; omega
      clear h c0 c1 a0 a1 hn hT
      go_enter Try.func4, Try.ntmps4
      go_wp2_with fail
      refine (alive_t _).mono ?_
      rintro e w1 ⟨rfl, hb1⟩
      go_wp2_with fail
      refine (HT.out _).mono ?_
      rintro e w2 ⟨rfl, rfl⟩
      go_wp2_with fail
      go_ret
      exact ⟨rfl, hb1⟩
    · have hd : decide (c < 0) = false := by simp; omega
      have hd2 : decide (32 < c) = true := by simp; omega
      clear h c0 c1 a0 a1 hn hT
      go_enter Try.func4, Try.ntmps4
      go_wp2_with fail
      refine (alive_t _).mono ?_
      rintro e w1 ⟨rfl, hb1⟩
      go_wp2_with fail
      refine (HT.out _).mono ?_
      rintro e w2 ⟨rfl, rfl⟩
      go_wp2_with fail
      go_ret
      exact ⟨rfl, hb1⟩
  · obtain ⟨k, rfl⟩ := Int.eq_ofNat_of_zero_le (show 0 ≤ c by omega)
    have hk : k ≤ 32 := by omega
    have hd : decide ((k : Int) < 0) = false := by simp
    have hd2 : decide ((32 : Int) < (k : Int)) = false := by simp; omega
    have hd3 : decide (32 < k) = false := by simp; omega
    have hT := fun W => turn_t n k W hn c0 c1
    have hT2 := fun W => turn_t (turnN n k) k W (by have := turnI_lt n k; rwa [turnI_in n k hk] at this) c0 c1
    rw [turnI_in n k hk] at hT
    rw [turnI_in _ k hk, turn_turn] at hT2
    have hG := fun W => grp_k n k W hn hk
    have hN := fun A c W h => num_k A c (gb n k) k W (gb_length n k) h hk
    rw [num_gb] at hN
    have hU := fun A c W h => turned_k A c (gb n k) k W (gb_length n k) h (by omega)
    have hN2 := fun A c W h => num_k A c (gb n k).reverse k W (by rw [List.length_reverse, gb_length]) h hk
    change ∀ A c W (h : Bts W W.heap.size A (bb (gb n k).reverse)), Calls Try.prog 18 #[.slice A k c] W fun e w' => e = .returned (.int .u32 (turnN n k : Nat)) ∧ W = w' at hN2
    generalize turnN n k = t at *
    generalize n % 2 ^ k = m at *
    have HT := Lib.hid hT
    have HT2 := Lib.hid hT2
    have HG := Lib.hid hG
    have HN := Lib.hid hN
    have HU := Lib.hid hU
    have HN2 := Lib.hid hN2
    clear h c0 c1 a0 a1 hn hT hT2 hG hN hU hN2 hk
    go_enter Try.func4, Try.ntmps4
    go_wp2_with fail
    refine (alive_t _).mono ?_
    rintro e w1 ⟨rfl, hb1⟩
    have HB1 := Lib.hid hb1
    clear hb1
    go_wp2_with fail
    refine (HG.out _).mono ?_
    rintro e w2 ⟨A2, c2, rfl, h2, b2⟩
    have H2 := Lib.hid (OwnB.reads h2)
    have HB2 := Lib.hid (nextB HB1.out b2)
    clear h2 b2
    go_wp2_with fail
    refine (HN.out _ _ _ H2.out).mono ?_
    rintro e w3 ⟨rfl, rfl⟩
    go_wp2_with fail
    refine (HT.out _).mono ?_
    rintro e w3 ⟨rfl, rfl⟩
    go_wp2_with fail
    refine (HG.out _).mono ?_
    rintro e w4 ⟨A4, c4, rfl, h4, b4⟩
    have H4 := Lib.hid (OwnB.reads h4)
    have HB4 := Lib.hid (nextB HB2.out b4)
    clear h4 b4
    go_wp2_with fail
    refine (HU.out _ _ _ H4.out).mono ?_
    rintro e w5 ⟨A5, c5, rfl, h5, b5⟩
    have H5 := Lib.hid (OwnB.reads h5)
    have HB5 := Lib.hid (nextB HB4.out b5)
    clear h5 b5
    go_wp2_with fail
    refine (HN2.out _ _ _ H5.out).mono ?_
    rintro e w6 ⟨rfl, rfl⟩
    go_wp2_with fail
    refine (HT.out _).mono ?_
    rintro e w6 ⟨rfl, rfl⟩
    go_wp2_with fail
    refine (HT2.out _).mono ?_
    rintro e w6 ⟨rfl, rfl⟩
    go_wp2_with fail
    go_ret
    exact ⟨rfl, HB5.out⟩
end Go.Proofs.Ytboakhhmbjomfaa
