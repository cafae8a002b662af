/- Bitio: the document's Bits and Bytes walked. -/
import Derived.Test.YtboakhhmbjomfaaBitG
namespace Go.Proofs.Ytboakhhmbjomfaa
open Go.RowKit
open Bt
theorem pack_take {L : List Bool} {j : Nat} (h : 8 * j < L.length) : (pack L).take (j + 1) = (pack L).take j ++ [pk L j] := by
  have hp : j < (pack L).length := by rw [pack_length]; omega
  have hg := pack_get L j
  rw [if_pos (by omega), List.getElem?_eq_getElem hp] at hg
  rw [List.take_succ_eq_append_getElem hp, Option.some.inj hg]
theorem bits_take {S : List UInt8} {i : Nat} (h : i < S.length) : bitsOf (S.take (i + 1)) = bitsOf (S.take i) ++ gb (S[i]).toNat 8 := by
  rw [List.take_succ_eq_append_getElem h, bitsOf_append]
  simp [bitsOf]
set_option maxHeartbeats 800000 in
theorem rbits_t (A : Option Addr) (c : Nat) (S : List UInt8) (w : World) (hb : Bts w w.heap.size A S) (hl : S.length ≤ 100000) :
    Calls Try.prog 23 #[.slice A S.length c] w (BitsPost w (bb (bitsOf S))) := by
  have HB := Lib.hid hb
  clear hb
  go_enter Try.func23, Try.ntmps23
  go_wp2_with fail
  go_loopw [3, 4] (fun u v wr => ∃ (i : Nat) (A2 : Option Addr) (c2 : Nat), i ≤ S.length ∧ v = .int .i64 (i : Int) ∧ u = .slice A2 (bb (bitsOf (S.take i))).length c2 ∧ OwnB wr w.heap.size A2 c2 (bb (bitsOf (S.take i))) ∧ Below w.heap.size w wr) (fun _ v _ => S.length - (intOf v).toNat)
  case atStart => exact ⟨0, none, 0, Nat.zero_le _, rfl, rfl, Own.nil _ _ _ _, Below.refl _ _⟩
  case round =>
    obtain ⟨i, A2, c2, hi, rfl, rfl, hown, hbel⟩ := hrel
    obtain ⟨wo, rfl⟩ : ∃ wo : World, wo = wr := ⟨_, rfl⟩
    by_cases hlt : i < S.length
    · have hii : (i : Int) < (S.length : Int) := by omega
      obtain ⟨b, o, hA, hbl, hcell⟩ := HB.out.at_ (by omega)
      subst hA
      have hc := (hbel.cell (p := ⟨b, o + i, none⟩) hbl).trans (hcell i hlt)
      have hbt := bits_take hlt
      have hrl : (bb (bitsOf (S.take i))).length ≤ 800000 := by rw [bb_length, bitsOf_length, List.length_take]; omega
      have hx256 : (S[i]).toNat < 256 := (S[i]).toNat_lt
      generalize S[i] = x at *
      have hbb : bb (bitsOf (S.take (i + 1))) = bb (bitsOf (S.take i)) ++ bb (gb x.toNat 8) := by rw [hbt, bb_append]
      have hgl : (bb (gb x.toNat 8)).length = 8 := by rw [bb_length, gb_length]
      have HG := Lib.hid (rgrp_t x.toNat 8 wo (by omega) (by decide))
      unfold BitsPost at HG
      generalize bb (bitsOf (S.take i)) = R at *
      generalize bb (gb x.toNat 8) = G at *
      have hxi : (x.toNat : Int) < 256 := by omega
      rw [hgl] at HG
      have HGL := Lib.hid hgl
      have HO := Lib.hid hown
      have HW := Lib.hid hbel
      have HI := Lib.hid hlt
      have HBB := Lib.hid hbb
      clear hown hbel hlt hbt hbb hi hcell hgl
      go_wp2_with fail
      refine HG.out.mono ?_
      rintro e w1 ⟨A1, c1, rfl, ho1, hb1⟩
      have HO1 := Lib.hid (OwnB.reads ho1)
      have HOB := Lib.hid (Own.below HO.out hb1)
      have HW1 := Lib.hid (nextB HW.out hb1)
      clear ho1 hb1
      go_wp2_with (at_builtin; refine Hid.out ?_)
      have hrd := HO1.out
      unfold Bts at hrd
      rw [HGL.out] at hrd
      refine wpList_app (xs := bvs R) rfl rfl elem_u8 rfl HOB.out rfl hrd (bvs_one _) (R.length + 8) rfl (bvs (R ++ G)) (bvs_append _ _).symm (by unfold maxLen; omega) (by omega) HW1.out.size ?_
      intro A4 c4 w4 o4 g4 q4
      have HO4 : Hid (OwnB w4 w.heap.size A4 c4 (R ++ G)) := Lib.hid (by unfold OwnB; rw [List.length_append, HGL.out]; exact o4)
      have HW4 := Lib.hid (appB HW1.out HOB.out g4 (Nat.le_refl _) HW1.out.size)
      clear o4 g4 q4 hrd
      go_wp2_with fail
      go_roundw
      case rel => exact ⟨i + 1, A4, c4, HI.out, by go_num, by rw [HBB.out, List.length_append, HGL.out], by rw [HBB.out]; exact HO4.out, HW4.out⟩
      case measure => have := HI.out; simp [intOf]; omega
    · obtain rfl : S.length = i := by omega
      rw [List.take_length] at hown ⊢
      clear hi hlt
      generalize bb (bitsOf S) = R at *
      go_wp2_with fail
      go_ret
      exact ⟨A2, c2, rfl, hown, hbel⟩
set_option maxHeartbeats 1600000 in
set_option maxRecDepth 100000 in
theorem rbytes_t (A : Option Addr) (c : Nat) (L : List Bool) (w : World) (hb : Bts w w.heap.size A (bb L)) (hl : L.length ≤ 1000000) (hlc : L.length ≤ c) :
    Calls Try.prog 24 #[.slice A L.length c] w (BitsPost w (pack L)) := by
  have HB := Lib.hid hb
  have hpl := pack_length L
  obtain ⟨P, hP⟩ : ∃ P, P = pack L := ⟨_, rfl⟩
  have hpk := fun j (h : 8 * j < L.length) => pack_take h
  rw [← hP] at hpk hpl
  rw [← hP]
  have HPK := Lib.hid hpk
  have HPL := Lib.hid hpl
  clear hb hpk hP hpl
  go_enter Try.func24, Try.ntmps24
  go_wp2_with fail
  go_loopw [3, 4] (fun u v wr => ∃ (j i : Nat) (A2 : Option Addr) (c2 : Nat), i < L.length + 8 ∧ i = 8 * j ∧ v = .int .i64 (i : Int) ∧ u = .slice A2 (P.take j).length c2 ∧ OwnB wr w.heap.size A2 c2 (P.take j) ∧ Below w.heap.size w wr) (fun _ v _ => L.length + 8 - (intOf v).toNat)
  case atStart => exact ⟨0, 0, none, 0, by omega, rfl, rfl, rfl, Own.nil _ _ _ _, Below.refl _ _⟩
  case round =>
    obtain ⟨j, i, A2, c2, hj, hi8, rfl, rfl, hown, hbel⟩ := hrel
    obtain ⟨wo, rfl⟩ : ∃ wo : World, wo = wr := ⟨_, rfl⟩
    by_cases hlt : i < L.length
    · have hii : (i : Int) < (L.length : Int) := by omega
      obtain ⟨b, o, hA, hbl, hcell⟩ := HB.out.at_ (by rw [bb_length]; omega)
      subst hA
      have htk := HPK.out j (by omega)
      have hrl : (P.take j).length ≤ 1000000 := by rw [List.length_take]; omega
      generalize P.take j = S at *
      have HO := Lib.hid hown
      have HW := Lib.hid hbel
      have HTK : Hid (P.take (j + 1) = S ++ [pk L j]) := Lib.hid htk
      clear hown hbel htk hcell
      by_cases h8 : i + 8 < L.length
      · have h8i : (i : Int) + 8 < (L.length : Int) := by omega
        have hsl := slice_len (l := bb L) (i := i) (j := (i + 8)) (by rw [bb_length]; omega)
        have hbt := slice_bts (HB.out.at_below HW.out) c i (i + 8) (by rw [bb_length]; omega) (by rw [bb_length]; omega)
        have hA3 : sliceA (some ⟨b, o, none⟩) c i = some ⟨b, o + i, none⟩ := by unfold sliceA; rw [if_neg (by omega), Option.map_some, add_lit]
        rw [hA3] at hbt
        have HBT := Lib.hid hbt
        have hbe : ((bb L).drop i).take ((i + 8) - i) = bb ((L.drop i).take ((i + 8) - i)) := by simp [bb, List.map_drop, List.map_take]
        rw [hbe] at hsl HBT
        rw [bb_length] at hsl
        have hte : (L.drop i).take ((i + 8) - i) = (L.drop i).take 8 := by rw [Nat.add_sub_cancel_left]
        rw [hte] at HBT hsl
        have HN := Lib.hid (rnum_t _ (c - i) _ _ HBT.out (by rw [List.length_take]; omega))
        rw [hsl] at HN
        rw [Nat.add_sub_cancel_left] at HN
        have e8 : ((i : Int) + 8).toNat = i + 8 := by omega
        have hpk2 := pk_toNat L j
        rw [← hi8] at hpk2
        rw [← hpk2] at HN
        have hx256 : (pk L j).toNat < 256 := (pk L j).toNat_lt
        generalize pk L j = x at *
        have hci : ¬ c = i := by omega
        clear hsl hbe hte hpk2 hbt hA3 HBT
        have hxi : (x.toNat : Int) < 256 := by omega
        have HLT := Lib.hid hlt
        have HI8 := Lib.hid hi8
        clear hlt hi8 hj
        go_wp2_with fail
        refine HN.out.mono ?_
        rintro e w1 ⟨rfl, rfl⟩
        go_wp2_with (at_builtin; refine Hid.out ?_)
        have hO2 := Own.alloc (show Own wo w.heap.size 5 1 A2 S.length c2 (bvs S) from HO.out) (.cells #[.int .u8 (x.toNat : Int)] 5)
        have hW2 := newB HW.out (.cells #[.int .u8 (x.toNat : Int)] 5)
        refine wpList_app (xs := bvs S) rfl rfl elem_u8 rfl hO2 rfl (byte_new wo x) (bvs_one _) (S.length + 1) rfl (bvs (S ++ [x])) (bvs_append _ _).symm (by unfold maxLen; omega) (by omega) hW2.size ?_
        intro A4 c4 w4 o4 g4 q4
        have HO4 : Hid (OwnB w4 w.heap.size A4 c4 (S ++ [x])) := Lib.hid (by unfold OwnB; rw [List.length_append]; exact o4)
        have HW4 := Lib.hid (appB hW2 hO2 g4 (Nat.le_refl _) hW2.size)
        clear hO2 hW2 o4 g4 q4
        go_wp2_with fail
        go_roundw
        case rel => exact ⟨j + 1, i + 8, A4, c4, by have := HLT.out; have := HI8.out; omega, by have := HI8.out; omega, by go_num, by rw [HTK.out]; simp, by rw [HTK.out]; exact HO4.out, HW4.out⟩
        case measure => have := HLT.out; simp [intOf]; omega
      · have h8i : (L.length : Int) ≤ (i : Int) + 8 := by omega
        have hsl := slice_len (l := bb L) (i := i) (j := L.length) (by rw [bb_length]; omega)
        have hbt := slice_bts (HB.out.at_below HW.out) c i L.length (by rw [bb_length]; omega) (by rw [bb_length]; omega)
        have hA3 : sliceA (some ⟨b, o, none⟩) c i = some ⟨b, o + i, none⟩ := by unfold sliceA; rw [if_neg (by omega), Option.map_some, add_lit]
        rw [hA3] at hbt
        have HBT := Lib.hid hbt
        have hbe : ((bb L).drop i).take (L.length - i) = bb ((L.drop i).take (L.length - i)) := by simp [bb, List.map_drop, List.map_take]
        rw [hbe] at hsl HBT
        rw [bb_length] at hsl
        have hte : (L.drop i).take (L.length - i) = (L.drop i).take 8 := by rw [List.take_of_length_le (by simp), List.take_of_length_le (by simp; omega)]
        rw [hte] at HBT hsl
        have HN := Lib.hid (rnum_t _ (c - i) _ _ HBT.out (by rw [List.length_take]; omega))
        rw [hsl] at HN
        have hpk2 := pk_toNat L j
        rw [← hi8] at hpk2
        rw [← hpk2] at HN
        have hx256 : (pk L j).toNat < 256 := (pk L j).toNat_lt
        generalize pk L j = x at *
        have hci : ¬ c = i := by omega
        clear hsl hbe hte hpk2 hbt hA3 HBT
        have hxi : (x.toNat : Int) < 256 := by omega
        have HLT := Lib.hid hlt
        have HI8 := Lib.hid hi8
        clear hlt hi8 hj
        go_wp2_with fail
        refine HN.out.mono ?_
        rintro e w1 ⟨rfl, rfl⟩
        go_wp2_with (at_builtin; refine Hid.out ?_)
        have hO2 := Own.alloc (show Own wo w.heap.size 5 1 A2 S.length c2 (bvs S) from HO.out) (.cells #[.int .u8 (x.toNat : Int)] 5)
        have hW2 := newB HW.out (.cells #[.int .u8 (x.toNat : Int)] 5)
        refine wpList_app (xs := bvs S) rfl rfl elem_u8 rfl hO2 rfl (byte_new wo x) (bvs_one _) (S.length + 1) rfl (bvs (S ++ [x])) (bvs_append _ _).symm (by unfold maxLen; omega) (by omega) hW2.size ?_
        intro A4 c4 w4 o4 g4 q4
        have HO4 : Hid (OwnB w4 w.heap.size A4 c4 (S ++ [x])) := Lib.hid (by unfold OwnB; rw [List.length_append]; exact o4)
        have HW4 := Lib.hid (appB hW2 hO2 g4 (Nat.le_refl _) hW2.size)
        clear hO2 hW2 o4 g4 q4
        go_wp2_with fail
        go_roundw
        case rel => exact ⟨j + 1, i + 8, A4, c4, by have := HLT.out; have := HI8.out; omega, by have := HI8.out; omega, by go_num, by rw [HTK.out]; simp, by rw [HTK.out]; exact HO4.out, HW4.out⟩
        case measure => have := HLT.out; simp [intOf]; omega
    · rw [List.take_of_length_le (by rw [HPL.out]; omega)] at hown ⊢
      clear hj hi8
      have hii : ¬ (i : Int) < (L.length : Int) := by omega
      clear hlt
      go_wp2_with fail
      go_ret
      exact ⟨A2, c2, rfl, hown, hbel⟩
end Go.Proofs.Ytboakhhmbjomfaa
