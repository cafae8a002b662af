/- Bitio: the document's functions walked. -/
import Derived.Test.YtboakhhmbjomfaaBitF
namespace Go.Proofs.Ytboakhhmbjomfaa
open Go.RowKit
open Bt
theorem rfits_t (n : Nat) (c : Int) (w : World) (hn : n < 4294967296) :
    Calls Try.prog 9 #[.int .u32 (n : Int), .int .i64 c] w fun e w' => e = .returned (.bool (fitsB n c)) ∧ w = w' := by
  by_cases h : c < 0 ∨ 32 < c
  · rw [fits_no h]
    rcases h with h | h
    · have hd : decide (c < 0) = true := by simp; omega
      clear h
      go_enter Try.func9, Try.ntmps9
      go_wp2_with fail
      go_ret
      exact ⟨rfl, rfl⟩
    · have hd : decide (c < 0) = false := by simp; omega
      have hd2 : decide (32 < c) = true := by simp; omega
      clear h
      go_enter Try.func9, Try.ntmps9
      go_wp2_with fail
      go_ret
      exact ⟨rfl, rfl⟩
  · obtain ⟨k, rfl⟩ := Int.eq_ofNat_of_zero_le (show 0 ≤ c by omega)
    rw [fits_in (by omega)]
    have hk : (k : Int) ≤ 32 := by omega
    have hd : decide ((k : Int) < 0) = false := by simp
    have hd2 : decide ((32 : Int) < (k : Int)) = false := by simp; omega
    have hd3 : decide (32 < k) = false := by simp; omega
    have hnn : (n : Int) < 4294967296 := by omega
    clear h
    go_enter Try.func9, Try.ntmps9
    go_wp2_with fail
    go_loop [5, 6] (fun u v => ∃ i : Nat, i ≤ k ∧ v = .int .i64 (i : Int) ∧ u = .int .u64 ((n / 2 ^ i : Nat) : Int)) (fun _ v => k - (intOf v).toNat)
    case atStart => exact ⟨0, Nat.zero_le _, rfl, by simp⟩
    case round =>
      obtain ⟨i, hi, rfl, rfl⟩ := hrel
      by_cases hlt : i < k
      · have hii : (i : Int) < (k : Int) := by omega
        have hdv : n / 2 ^ (i + 1) = n / 2 ^ i / 2 := by rw [Nat.pow_succ, Nat.div_div_eq_div_mul]
        have HDV := Lib.hid hdv
        have HI := Lib.hid hlt
        obtain ⟨m, hm⟩ : ∃ m, m = n / 2 ^ i := ⟨_, rfl⟩
        have hm2 : m < 4294967296 := by rw [hm]; exact Nat.lt_of_le_of_lt (Nat.div_le_self _ _) hn
        have hm3 : (m : Int) < 4294967296 := by omega
        rw [← hm]
        have HM := Lib.hid hm
        clear hdv hlt hi hm hm2
        go_wp2_with fail
        go_round
        case rel => exact ⟨i + 1, HI.out, by go_num, by rw [HDV.out, ← HM.out]; simp⟩
        case measure => have := HI.out; simp [intOf]; omega
      · obtain rfl : k = i := by omega
        obtain ⟨m, hm⟩ : ∃ m, m = n / 2 ^ k := ⟨_, rfl⟩
        rw [← hm]
        have HM := Lib.hid hm
        clear hi hlt hm
        go_wp2_with fail
        go_ret
        refine ⟨?_, rfl⟩
        have : ((m : Int) == 0) = (n / 2 ^ k == 0) := by
          rw [← HM.out, Bool.eq_iff_iff, beq_iff_eq, beq_iff_eq]
          omega
        rw [← this]
        rfl
def BitsPost (w : World) (S : List UInt8) (e : Ending) (w' : World) : Prop := ∃ A c, e = .returned (.slice A S.length c) ∧ OwnB w' w.heap.size A c S ∧ Below w.heap.size w w'
set_option maxHeartbeats 800000 in
theorem rgrp_t (n k : Nat) (w : World) (hn : n < 4294967296) (hk : k ≤ 32) :
    Calls Try.prog 19 #[.int .u32 (n : Int), .int .i64 (k : Int)] w (BitsPost w (bb (gb n k))) := by
  have hki : (k : Int) ≤ 32 := by omega
  go_enter Try.func19, Try.ntmps19
  go_wp2_with fail
  go_loopw [0, 5, 6] (fun u0 u5 v wr => ∃ (i : Nat) (A2 : Option Addr) (c2 : Nat), i ≤ k ∧ v = .int .i64 (i : Int) ∧ u0 = .int .u32 ((n / 2 ^ i : Nat) : Int) ∧ u5 = .slice A2 (bb (gb n i)).length c2 ∧ OwnB wr w.heap.size A2 c2 (bb (gb n i)) ∧ Below w.heap.size w wr) (fun _ _ v _ => k - (intOf v).toNat)
  case atStart => exact ⟨0, none, 0, Nat.zero_le _, rfl, by simp, rfl, Own.nil _ _ _ _, Below.refl _ _⟩
  case round =>
    obtain ⟨i, A2, c2, hi, rfl, rfl, rfl, hown, hbel⟩ := hrel
    obtain ⟨wo, rfl⟩ : ∃ wo : World, wo = wr := ⟨_, rfl⟩
    have hlen : (bb (gb n i)).length = i := by rw [bb_length, gb_length]
    by_cases hlt : i < k
    · have hii : (i : Int) < (k : Int) := by omega
      have hdv : n / 2 ^ (i + 1) = n / 2 ^ i / 2 := by rw [Nat.pow_succ, Nat.div_div_eq_div_mul]
      have hgs := gb_snoc n i
      obtain ⟨m, hm⟩ : ∃ m, m = n / 2 ^ i := ⟨_, rfl⟩
      have hm2 : m < 4294967296 := by rw [hm]; exact Nat.lt_of_le_of_lt (Nat.div_le_self _ _) hn
      rw [← hm] at hdv hgs
      rw [← hm]
      obtain ⟨x, hx⟩ : ∃ x : UInt8, x = (if decide (m % 2 = 1) then 1 else 0) := ⟨_, rfl⟩
      have hbs : bb (gb n (i + 1)) = bb (gb n i) ++ [x] := by rw [hgs, bb_append, hx]; rfl
      have ex : (m : Int) % 2 = (x.toNat : Int) := by
        rw [hx]
        rcases Nat.mod_two_eq_zero_or_one m with h | h
        · rw [if_neg (by simp [h])]
          show (m : Int) % 2 = 0
          omega
        · rw [if_pos (by simp [h])]
          show (m : Int) % 2 = 1
          omega
      generalize bb (gb n i) = S at *
      have hm3 : (m : Int) < 4294967296 := by omega
      have HO := Lib.hid hown
      have HW := Lib.hid hbel
      have HI := Lib.hid hlt
      have HDV := Lib.hid hdv
      have HBS := Lib.hid hbs
      clear hown hbel hlt hdv hgs hm hx hbs hi
      have hs32 : S.length ≤ 32 := by omega
      clear hlen
      go_wp2_with (at_builtin; refine Hid.out ?_)
      have hO2 := Own.alloc (show Own wo w.heap.size 5 1 A2 S.length c2 (bvs S) from HO.out) (.cells #[.int .u8 (x.toNat : Int)] 5)
      have hW2 := newB HW.out (.cells #[.int .u8 (x.toNat : Int)] 5)
      refine wpList_app (xs := bvs S) rfl rfl elem_u8 rfl hO2 rfl (byte_new wo x) (bvs_one _) (S.length + 1) rfl (bvs (S ++ [x])) (bvs_append _ _).symm (by unfold maxLen; omega) (by omega) hW2.size ?_
      intro A4 c4 w4 o4 g4 q4
      have HO4 : Hid (OwnB w4 w.heap.size A4 c4 (S ++ [x])) := Lib.hid (by unfold OwnB; rw [List.length_append]; exact o4)
      have HW4 := Lib.hid (appB hW2 hO2 g4 (Nat.le_refl _) hW2.size)
      clear hO2 hW2 o4 g4 q4
      go_wp2_with fail
      go_roundw
      case rel => exact ⟨i + 1, A4, c4, HI.out, by go_num, by rw [HDV.out]; simp, by rw [HBS.out]; simp, by rw [HBS.out]; exact HO4.out, HW4.out⟩
      case measure => have := HI.out; simp [intOf]; omega
    · obtain rfl : k = i := by omega
      clear hi hlt
      generalize bb (gb n k) = S at *
      go_wp2_with fail
      go_ret
      exact ⟨A2, c2, rfl, hown, hbel⟩
set_option maxHeartbeats 800000 in
theorem rturned_t (A : Option Addr) (c : Nat) (S : List UInt8) (w : World) (hb : Bts w w.heap.size A S) (hl : S.length ≤ 100000000) :
    Calls Try.prog 20 #[.slice A S.length c] w (BitsPost w S.reverse) := by
  have HB := Lib.hid hb
  clear hb
  go_enter Try.func20, Try.ntmps20
  go_wp2_with fail
  go_loopw [3, 4] (fun u v wr => ∃ (m : Nat) (A2 : Option Addr) (c2 : Nat), m ≤ S.length ∧ v = .int .i64 ((m : Int) - 1) ∧ u = .slice A2 (S.drop m).reverse.length c2 ∧ OwnB wr w.heap.size A2 c2 (S.drop m).reverse ∧ Below w.heap.size w wr) (fun _ v _ => (intOf v + 1).toNat)
  case atStart => exact ⟨S.length, none, 0, Nat.le_refl _, rfl, by simp, by rw [List.drop_length]; exact Own.nil _ _ _ _, Below.refl _ _⟩
  case round =>
    obtain ⟨m, A2, c2, hm, rfl, rfl, hown, hbel⟩ := hrel
    obtain ⟨wo, rfl⟩ : ∃ wo : World, wo = wr := ⟨_, rfl⟩
    rcases m with _ | j
    · obtain ⟨iv, hiv⟩ : ∃ iv : Int, iv = ((0 : Nat) : Int) - 1 := ⟨_, rfl⟩
      rw [← hiv]
      have hd : decide (0 ≤ iv) = false := by rw [hiv]; rfl
      rw [List.drop_zero] at hown ⊢
      clear hiv hm
      go_wp2_with fail
      go_ret
      exact ⟨A2, c2, rfl, hown, hbel⟩
    · rw [show ((j + 1 : Nat) : Int) - 1 = (j : Int) by omega]
      have hd : decide (0 ≤ (j : Int)) = true := by simp
      have j0 : (0 : Int) ≤ (j : Int) := by omega
      have j1 : (j : Int) < (S.length : Int) := by omega
      obtain ⟨b, o, hA, hbl, hcell⟩ := HB.out.at_ (by omega)
      subst hA
      have hc := (hbel.cell (p := ⟨b, o + j, none⟩) hbl).trans (hcell j (by omega))
      have hds : (S.drop j).reverse = (S.drop (j + 1)).reverse ++ [S[j]] := by
        rw [List.drop_eq_getElem_cons (by omega), List.reverse_cons]
      have hlen : (S.drop (j + 1)).reverse.length ≤ S.length := by simp
      generalize S[j] = x at *
      generalize (S.drop (j + 1)).reverse = R at *
      have HO := Lib.hid hown
      have HW := Lib.hid hbel
      have HDS := Lib.hid hds
      have HM := Lib.hid hm
      clear hown hbel hds hm hcell
      have hrl : R.length ≤ 100000000 := by omega
      clear hlen
      go_wp2_with (at_builtin; refine Hid.out ?_)
      have hO2 := Own.alloc (show Own wo w.heap.size 5 1 A2 R.length c2 (bvs R) from HO.out) (.cells #[.int .u8 (x.toNat : Int)] 5)
      have hW2 := newB HW.out (.cells #[.int .u8 (x.toNat : Int)] 5)
      refine wpList_app (xs := bvs R) rfl rfl elem_u8 rfl hO2 rfl (byte_new wo x) (bvs_one _) (R.length + 1) rfl (bvs (R ++ [x])) (bvs_append _ _).symm (by unfold maxLen; omega) (by omega) hW2.size ?_
      intro A4 c4 w4 o4 g4 q4
      have HO4 : Hid (OwnB w4 w.heap.size A4 c4 (R ++ [x])) := Lib.hid (by unfold OwnB; rw [List.length_append]; exact o4)
      have HW4 := Lib.hid (appB hW2 hO2 g4 (Nat.le_refl _) hW2.size)
      clear hO2 hW2 o4 g4 q4
      go_wp2_with fail
      go_roundw
      case rel => exact ⟨j, A4, c4, by have := HM.out; omega, rfl, by rw [HDS.out]; simp, by rw [HDS.out]; exact HO4.out, HW4.out⟩
      case measure => simp [intOf]
theorem bb_get {L : List Bool} {j : Nat} (h : j < L.length) : ∃ x : UInt8, (bb L)[j]? = some x ∧ x.toNat = (L[j]).toNat := ⟨if L[j] then 1 else 0, by simp [bb, h], bit_bb _⟩
set_option maxHeartbeats 800000 in
theorem rnum_t (A : Option Addr) (c : Nat) (L : List Bool) (w : World) (hb : Bts w w.heap.size A (bb L)) (hl : L.length ≤ 32) :
    Calls Try.prog 18 #[.slice A L.length c] w fun e w' => e = .returned (.int .u32 (num L : Nat)) ∧ w = w' := by
  have HB := Lib.hid hb
  clear hb
  obtain ⟨R, hR⟩ : ∃ R, R = num L := ⟨_, rfl⟩
  rw [← hR]
  have HR := Lib.hid hR
  clear hR
  go_enter Try.func18, Try.ntmps18
  go_wp2_with fail
  go_loop [3, 4] (fun u v => ∃ m : Nat, m ≤ L.length ∧ v = .int .i64 ((m : Int) - 1) ∧ u = .int .u32 (num (L.drop m) : Nat)) (fun _ v => (intOf v + 1).toNat)
  case atStart => exact ⟨L.length, Nat.le_refl _, rfl, by rw [List.drop_length]; rfl⟩
  case round =>
    obtain ⟨m, hm, rfl, rfl⟩ := hrel
    rcases m with _ | j
    · obtain ⟨iv, hiv⟩ : ∃ iv : Int, iv = ((0 : Nat) : Int) - 1 := ⟨_, rfl⟩
      rw [← hiv]
      have hd : decide (0 ≤ iv) = false := by rw [hiv]; rfl
      rw [List.drop_zero, ← HR.out]
      clear hiv hm
      go_wp2_with fail
      go_ret
      exact ⟨rfl, rfl⟩
    · rw [show ((j + 1 : Nat) : Int) - 1 = (j : Int) by omega]
      have hd : decide (0 ≤ (j : Int)) = true := by simp
      have j0 : (0 : Int) ≤ (j : Int) := by omega
      have j1 : (j : Int) < (L.length : Int) := by omega
      obtain ⟨b, o, hA, hbl, hcell⟩ := HB.out.at_ (by rw [bb_length]; omega)
      subst hA
      obtain ⟨x, hx, hxb⟩ := bb_get (L := L) (j := j) (by omega)
      have hc := hcell j (by rw [bb_length]; omega)
      rw [(List.getElem?_eq_some_iff.1 hx).2] at hc
      have hnd : num (L.drop j) = x.toNat + 2 * num (L.drop (j + 1)) := by
        rw [List.drop_eq_getElem_cons (by omega), num, hxb]
      have hlt : num (L.drop (j + 1)) < 2147483648 := by
        refine Nat.lt_of_lt_of_le (num_lt _) (Nat.le_trans (Nat.pow_le_pow_right (by decide) (show (L.drop (j + 1)).length ≤ 31 by rw [List.length_drop]; omega)) (by decide))
      have hx1 : x.toNat ≤ 1 := by rw [hxb]; exact toNat_le _
      generalize num (L.drop (j + 1)) = a at *
      have hai : (a : Int) < 2147483648 := by omega
      have hxi : (x.toNat : Int) ≤ 1 := by omega
      have HM := Lib.hid hm
      have HND := Lib.hid hnd
      clear hm hnd hcell hx hxb hlt hx1
      go_wp2_with fail
      go_round
      case rel => exact ⟨j, by have := HM.out; omega, rfl, by rw [HND.out]; go_num⟩
      case measure => simp [intOf]
theorem rup_t (n : Nat) (w : World) (hn : n ≤ 1000000000) :
    Calls Try.prog 27 #[.int .i64 (n : Int)] w fun e w' => e = .returned (.int .i64 (upN n : Nat)) ∧ w = w' := by
  go_enter Try.func27, Try.ntmps27
  go_wp2_with fail
  go_loop [0] (fun u => ∃ k : Nat, n ≤ k ∧ u = .int .i64 (k : Int) ∧ upN k = upN n ∧ k ≤ upN n) (fun u => upN n - (intOf u).toNat)
  case atStart => exact ⟨n, Nat.le_refl _, rfl, rfl, by unfold upN; omega⟩
  case round =>
    obtain ⟨k, hk, rfl, hu, hle⟩ := hrel
    unfold upN at hu hle
    by_cases h8 : k % 8 = 0
    · have e8 : ((k : Int) % 8 != 0) = false := by simp; omega
      have hkn : k = upN n := by unfold upN; omega
      have HKN := Lib.hid hkn
      clear hu hle h8 hkn
      go_wp2_with fail
      go_ret
      exact ⟨by rw [← HKN.out]; rfl, rfl⟩
    · have e8 : ((k : Int) % 8 != 0) = true := by simp; omega
      have hkb : (k : Int) ≤ 1000000008 := by omega
      have HH : Hid (upN (k + 1) = upN n ∧ k + 1 ≤ upN n ∧ n ≤ k) := Lib.hid (by unfold upN; omega)
      clear hu hle h8
      go_wp2_with fail
      go_round
      case rel => exact ⟨k + 1, by have := HH.out; omega, by go_num, HH.out.1, HH.out.2.1⟩
      case measure => have := HH.out; simp [intOf]; omega
end Go.Proofs.Ytboakhhmbjomfaa
