/- Match: spread walked. -/
import Derived.Test.YtcfmfhkajngknaaMatchF
import Derived.Test.YtcfmfhkajngknaaMatchJ
namespace Go.Proofs.Ytcfmfhkajngknaa
open Go.RowKit
open Mt
theorem own_cap {w : World} {base : Nat} {e : TypeId} {size : Nat} {A : Option Addr} {n c : Nat} {xs : List Value} (h : Own w base e size A n c xs) : n ≤ c := by
  rcases Nat.eq_zero_or_pos n with h0 | h0
  · omega
  · obtain ⟨_, _, _, _, h1, _⟩ := h.form h0
    exact h1
def SpreadPost (w : World) (e : Ending) (w' : World) : Prop := ∃ A c S, e = .returned (.slice A S.length c) ∧ S.length ≤ 1440 ∧ OwnB w' w.heap.size A c S ∧ Below w.heap.size w w'
theorem mod4 (x : UInt8) : ∃ y : UInt8, (x.toNat : Int) % 4 = (y.toNat : Int) := ⟨UInt8.ofNat (x.toNat % 4), by simp; omega⟩
set_option maxHeartbeats 3200000 in
theorem spread_t (A B : Option Addr) (c d : Nat) (l m : List UInt8) (w : World) (hb : Bts w w.heap.size A l) (hb2 : Bts w w.heap.size B m) (hm : l.length ≤ maxLen) (hm2 : m.length ≤ maxLen) :
    Calls Try.prog 9 #[.slice A l.length c, .slice B m.length d] w (SpreadPost w) := by
  unfold maxLen at hm hm2
  have HB := Lib.hid hb
  have HB2 := Lib.hid hb2
  clear hb hb2
  go_enter Try.func9, Try.ntmps9
  go_wp2_with fail
  go_loopw [5, 6] (fun v u wr => ∃ (i : Nat) (A2 : Option Addr) (c2 : Nat) (S : List UInt8), i ≤ l.length ∧ i ≤ 60 ∧ u = .int .i64 (i : Int) ∧ v = .slice A2 S.length c2 ∧ S.length ≤ 24 * i ∧ OwnB wr w.heap.size A2 c2 S ∧ Below w.heap.size w wr) (fun _ u _ => 60 - (intOf u).toNat)
  case atStart => exact ⟨0, none, 0, [], Nat.zero_le _, Nat.zero_le _, rfl, rfl, Nat.le_refl _, Own.nil _ _ _ _, Below.refl _ _⟩
  case round =>
    obtain ⟨i, A2, c2, S, hi, hi60, rfl, rfl, hsl, hown, hbel⟩ := hrel
    obtain ⟨wo, rfl⟩ : ∃ wo : World, wo = wr := ⟨_, rfl⟩
    by_cases hlt : i < l.length
    · have hd1 : decide (i < l.length) = true := by simp; omega
      have hii : (i : Int) < (l.length : Int) := by omega
      by_cases h60 : i < 60
      · have hd2 : decide (i < 60) = true := by simp; omega
        have h6i : (i : Int) < 60 := by omega
        obtain ⟨b, o, hA, hbl, hcell⟩ := HB.out.at_ (by omega)
        have hc := hcell i hlt
        generalize l[i] = x at *
        obtain ⟨y, hy⟩ := mod4 x
        subst hA
        have HO := Lib.hid hown
        have HW := Lib.hid hbel
        have HSL := Lib.hid hsl
        have HI : Hid (i < l.length ∧ i < 60) := Lib.hid ⟨hlt, h60⟩
        have HC := Lib.hid hc
        clear hown hbel hsl hlt h60 hi hi60 hcell hc
        by_cases hm3 : i < m.length
        · obtain ⟨b2, o2, hA2, hbl2, hcell2⟩ := HB2.out.at_ (by omega)
          have hc2 := hcell2 i hm3
          have hmi : (i : Int) < (m.length : Int) := by omega
          generalize m[i] = z at *
          subst hA2
          have hce2 := (HW.out.cell (p := ⟨b2, o2 + i, none⟩) hbl2).trans hc2
          obtain ⟨nn, hnn⟩ : ∃ nn : Nat, (nn : Int) = 1 + (z.toNat : Int) % 24 := ⟨1 + z.toNat % 24, by omega⟩
          have e2 : IntKind.i64.wrap (1 + (z.toNat : Int) % 24) = (nn : Int) := by rw [hnn]; exact IntWalk.i64_in _ ⟨by omega, by omega⟩
          have hn24 : nn ≤ 24 := by omega
          clear hnn hm3 hcell2 hc2
          go_wp2_with fail
          go_loopw [5, 8] (fun v u wr => ∃ (j : Nat) (A3 : Option Addr) (c3 : Nat) (S3 : List UInt8), j ≤ nn ∧ u = .int .i64 (j : Int) ∧ v = .slice A3 S3.length c3 ∧ S3.length = S.length + j ∧ OwnB wr w.heap.size A3 c3 S3 ∧ Below w.heap.size w wr) (fun _ u _ => nn - (intOf u).toNat)
          case atStart => exact ⟨0, A2, c2, S, Nat.zero_le _, rfl, rfl, rfl, HO.out, HW.out⟩
          case round =>
            obtain ⟨j, A3, c3, S3, hj, rfl, rfl, hl3, hown, hbel⟩ := hrel
            by_cases hjn : j < nn
            · have hji : (j : Int) < (nn : Int) := by omega
              have hce : wr.cell? ⟨b, o + i, none⟩ = some (.int .u8 (x.toNat : Int)) := (hbel.cell (p := ⟨b, o + i, none⟩) hbl).trans HC.out
              have HO3 := Lib.hid hown
              have HW3 := Lib.hid hbel
              have HJ := Lib.hid hjn
              have HL3 := Lib.hid hl3
              have hsl : S3.length ≤ 1440 := by have := HSL.out; have := HI.out; omega
              clear hown hbel hjn hj hl3
              go_wp2_with (at_builtin; refine Hid.out ?_)
              have hO2 := Own.alloc (show Own wr w.heap.size 5 1 A3 S3.length c3 (bvs S3) from HO3.out) (.cells #[.int .u8 (y.toNat : Int)] 5)
              have hW2 := newB HW3.out (.cells #[.int .u8 (y.toNat : Int)] 5)
              refine wpList_app (xs := bvs S3) rfl rfl elem_byte rfl hO2 rfl (byte_new wr y) (bvs_one _) (S3.length + 1) rfl (bvs (S3 ++ [y])) (bvs_append _ _).symm (by unfold maxLen; omega) (by omega) hW2.size ?_
              intro A4 c4 w4 o4 g4 q4
              have HO4 : Hid (OwnB w4 w.heap.size A4 c4 (S3 ++ [y])) := Lib.hid (by unfold OwnB; rw [List.length_append]; exact o4)
              have HW4 := Lib.hid (appB hW2 hO2 g4 (Nat.le_refl _) hW2.size)
              clear hO2 hW2 o4 g4 q4
              go_wp2_with fail
              go_roundw
              case rel => exact ⟨j + 1, A4, c4, S3 ++ [y], HJ.out, by go_num, by simp, by have := HL3.out; simp; omega, HO4.out, HW4.out⟩
              case measure => have := HJ.out; simp [intOf]; omega
            · obtain rfl : nn = j := by omega
              have HO3 := Lib.hid hown
              have HW3 := Lib.hid hbel
              have HL3 := Lib.hid hl3
              clear hown hbel hjn hj hl3
              go_wp2_with fail
              go_roundw
              case rel => exact ⟨i + 1, A3, c3, S3, by have := HI.out; omega, by have := HI.out; omega, by go_num, rfl, by have := HSL.out; have := HL3.out; omega, HO3.out, HW3.out⟩
              case measure => have := HI.out; simp [intOf]; omega
        · have hmi : ¬ (i : Int) < (m.length : Int) := by omega
          clear hm3
          go_wp2_with fail
          go_loopw [5, 8] (fun v u wr => ∃ (j : Nat) (A3 : Option Addr) (c3 : Nat) (S3 : List UInt8), j ≤ 1 ∧ u = .int .i64 (j : Int) ∧ v = .slice A3 S3.length c3 ∧ S3.length = S.length + j ∧ OwnB wr w.heap.size A3 c3 S3 ∧ Below w.heap.size w wr) (fun _ u _ => 1 - (intOf u).toNat)
          case atStart => exact ⟨0, A2, c2, S, Nat.zero_le _, rfl, rfl, rfl, HO.out, HW.out⟩
          case round =>
            obtain ⟨j, A3, c3, S3, hj, rfl, rfl, hl3, hown, hbel⟩ := hrel
            by_cases hjn : j < 1
            · have hji : (j : Int) < (1 : Int) := by omega
              have hce : wr.cell? ⟨b, o + i, none⟩ = some (.int .u8 (x.toNat : Int)) := (hbel.cell (p := ⟨b, o + i, none⟩) hbl).trans HC.out
              have HO3 := Lib.hid hown
              have HW3 := Lib.hid hbel
              have HJ := Lib.hid hjn
              have HL3 := Lib.hid hl3
              have hsl : S3.length ≤ 1440 := by have := HSL.out; have := HI.out; omega
              clear hown hbel hjn hj hl3
              go_wp2_with (at_builtin; refine Hid.out ?_)
              have hO2 := Own.alloc (show Own wr w.heap.size 5 1 A3 S3.length c3 (bvs S3) from HO3.out) (.cells #[.int .u8 (y.toNat : Int)] 5)
              have hW2 := newB HW3.out (.cells #[.int .u8 (y.toNat : Int)] 5)
              refine wpList_app (xs := bvs S3) rfl rfl elem_byte rfl hO2 rfl (byte_new wr y) (bvs_one _) (S3.length + 1) rfl (bvs (S3 ++ [y])) (bvs_append _ _).symm (by unfold maxLen; omega) (by omega) hW2.size ?_
              intro A4 c4 w4 o4 g4 q4
              have HO4 : Hid (OwnB w4 w.heap.size A4 c4 (S3 ++ [y])) := Lib.hid (by unfold OwnB; rw [List.length_append]; exact o4)
              have HW4 := Lib.hid (appB hW2 hO2 g4 (Nat.le_refl _) hW2.size)
              clear hO2 hW2 o4 g4 q4
              go_wp2_with fail
              go_roundw
              case rel => exact ⟨j + 1, A4, c4, S3 ++ [y], HJ.out, by go_num, by simp, by have := HL3.out; simp; omega, HO4.out, HW4.out⟩
              case measure => have := HJ.out; simp [intOf]; omega
            · obtain rfl : 1 = j := by omega
              have HO3 := Lib.hid hown
              have HW3 := Lib.hid hbel
              have HL3 := Lib.hid hl3
              clear hown hbel hjn hj hl3
              go_wp2_with fail
              go_roundw
              case rel => exact ⟨i + 1, A3, c3, S3, by have := HI.out; omega, by have := HI.out; omega, by go_num, rfl, by have := HSL.out; have := HL3.out; omega, HO3.out, HW3.out⟩
              case measure => have := HI.out; simp [intOf]; omega
      · have hd2 : decide (i < 60) = false := by simp; omega
        have h6i : ¬ (i : Int) < 60 := by omega
        have HSL : Hid (S.length ≤ 1440) := Lib.hid (by omega)
        clear hi hi60 hsl hlt h60
        go_wp2_with fail
        go_ret
        exact ⟨A2, c2, S, rfl, HSL.out, hown, hbel⟩
    · have hd1 : decide (i < l.length) = false := by simp; omega
      have hii : ¬ (i : Int) < (l.length : Int) := by omega
      have HSL : Hid (S.length ≤ 1440) := Lib.hid (by omega)
      clear hi hi60 hsl hlt
      go_wp2_with fail
      go_ret
      exact ⟨A2, c2, S, rfl, HSL.out, hown, hbel⟩
end Go.Proofs.Ytcfmfhkajngknaa
