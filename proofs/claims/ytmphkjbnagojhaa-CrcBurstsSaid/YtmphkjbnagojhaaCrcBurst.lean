/- CRC-32: the law of bursts, walked. -/
import Derived.Test.YtmphkjbnagojhaaCrcLaws
import Derived.Test.YtmphkjbnagojhaaCrcBurstPlain
namespace Go.Proofs.Ytmphkjbnagojhaa
open Go.RowKit
open Cr (W32)

theorem fits_burst (l : List UInt8) (fr : Nat) (u : W32) (hf : fr ≤ 8 * (l ++ Cr.le (Cr.sum l)).length) :
    fitsL (Cr.bst (l ++ Cr.le (Cr.sum l)) l.length fr u 32).1 = !(Cr.turnedB (l ++ Cr.le (Cr.sum l)) l.length fr u 32) := by
  have hb := Cr.burst_end (l ++ Cr.le (Cr.sum l)) l.length fr u hf
  rw [Cr.seal_end] at hb
  have hlen := Cr.bst_len (l ++ Cr.le (Cr.sum l)) l.length fr u 32
  generalize (Cr.bst (l ++ Cr.le (Cr.sum l)) l.length fr u 32).1 = x at *
  have h4 : x.length = l.length + 4 := by rw [hlen]; simp [Cr.le]
  unfold fitsL
  rw [if_neg (by omega)]
  obtain ⟨a, b, c, d, hz⟩ := four (x.drop (x.length - 4)) (by simp; omega)
  have hx : x.take (x.length - 4) ++ [a, b, c, d] = x := by rw [← hz]; exact List.take_append_drop _ _
  have hi := Cr.fits_iff (x.take (x.length - 4)) a b c d
  rw [hx] at hi
  rw [hz, fitsB]
  cases ht : Cr.turnedB (l ++ Cr.le (Cr.sum l)) l.length fr u 32 with
  | false => simpa using hi.2 (hb.2 ht)
  | true =>
    have : ¬ [a, b, c, d] = Cr.le (Cr.sum (x.take (x.length - 4))) := fun h => by
      have := hb.1 (hi.1 h)
      rw [ht] at this
      cases this
    simpa using this

theorem bit_at (u : W32) (i : Nat) : (bits .and .u32 ((u.toNat : Int) / 2 ^ i) 1 == 1) = u.getLsbD i := by
  have hlt := u.isLt
  have e : ((u.toNat : Int) / 2 ^ i) = ((u.toNat / 2 ^ i : Nat) : Int) := by simp
  have hle : u.toNat / 2 ^ i ≤ u.toNat := Nat.div_le_self _ _
  rw [e, show (1 : Int) = ((1 : Nat) : Int) from rfl, u32_and_nat _ _ (by omega) (by omega), nat_mask1, BitVec.getLsbD, Nat.testBit_eq_decide_div_mod_eq, Bool.eq_iff_iff]
  simp
  omega

theorem xor_pow (x : UInt8) (r : Nat) (h : r < 8) : bits .xor .u8 (x.toNat : Int) (2 ^ r % 256) = ((x ^^^ UInt8.ofNat (2 ^ r)).toNat : Int) := by
  have hx := x.toNat_lt
  have hp : ∀ r, r < 8 → (2 ^ r : Int) % 256 = ((UInt8.ofNat (2 ^ r)).toNat : Int) := by decide
  have hy := (UInt8.ofNat (2 ^ r)).toNat_lt
  rw [hp r h, u8_xor_nat _ _ (by omega) (by omega), UInt8.toNat_xor]

set_option maxHeartbeats 1600000 in
theorem crcBursts_walk (w : World) (A : Option Addr) (c : Nat) (l : List UInt8) (hl : l.length ≤ maxLen) (_hc : l.length ≤ c) (hra : Bts w w.heap.size A l) (at_ : Int) (at0 : 0 ≤ at_) (at1 : at_ ≤ 4294967295) (bu : Int) (bu0 : 0 ≤ bu) (bu1 : bu ≤ 4294967295) :
    Calls Try.prog 7 #[.slice A l.length c, .int .u32 at_, .int .u32 bu] w fun e w' => e = .returned (.bool true) ∧ Below w.heap.size w w' := by
  obtain ⟨u, rfl⟩ : ∃ u : W32, bu = (u.toNat : Int) := ⟨BitVec.ofNat 32 bu.toNat, by simp; omega⟩
  unfold maxLen at hl
  have HA := Lib.hid hra
  clear hra
  by_cases hbig : l.length ≤ 5000
  rotate_left
  · have hd1 : decide ((5000 : Int) < (l.length : Int)) = true := by simp; omega
    go_enter Try.func7, Try.ntmps7
    go_wp2_with fail
    refine (alive_t _).mono ?_
    rintro e w1 ⟨rfl, hb1⟩
    go_wp2_with fail
    go_ret
    exact ⟨rfl, hb1⟩
  have hd1 : decide ((5000 : Int) < (l.length : Int)) = false := by simp; omega
  have HL2 := Lib.hid (show l.length ≤ 1000000 by omega)
  have HL := Lib.hid (show l.length ≤ maxLen by unfold maxLen; omega)
  obtain ⟨fr, hfr⟩ : ∃ fr : Nat, at_ % (8 * ((l.length : Int) + 4)) = (fr : Int) := ⟨(at_ % (8 * ((l.length : Int) + 4))).toNat, by
    have := Int.emod_nonneg at_ (show (8 * ((l.length : Int) + 4)) ≠ 0 by omega)
    omega⟩
  have hfl : fr < 8 * (l.length + 4) := by
    have := Int.emod_lt_of_pos at_ (show 0 < (8 * ((l.length : Int) + 4)) by omega)
    omega
  have hwr : wrap64 (at_ % (8 * ((l.length : Int) + 4))) = (fr : Int) := by rw [hfr]; exact IntWalk.wrap64_in _ ⟨by omega, by omega⟩
  clear hfr
  go_enter Try.func7, Try.ntmps7
  go_wp2_with fail
  refine (alive_t _).mono ?_
  rintro e w1 ⟨rfl, hb1⟩
  go_wp2_with fail
  refine (rseal_t A c l _ HL2.out (HA.out.at_below hb1)).mono ?_
  rintro e w2 ⟨A2, p2, rfl, o2, hb2⟩
  have c2 := nextB hb1 hb2
  have O2 := Lib.hid o2
  clear hb2 o2
  have o3 : Own (w2.alloc (.cells #[] 5)) w2.heap.size 5 1 (some ⟨w2.heap.size, 0, none⟩) 0 0 [] := Own.made w2 _ _ 1 #[] 0 (Nat.le_refl _) (by simp) rfl
  have b3 := newB c2 (.cells #[] 5)
  have O3 := Lib.hid o3
  have R3 := Lib.hid (O2.out.reads.alloc (Nat.le_refl _) (.cells #[] 5))
  clear o3
  go_wp2_with (at_builtin; refine Hid.out ?_)
  refine wpList_app rfl rfl elem_u8 rfl O3.out rfl R3.out (bvs_one _) (l.length + 4) (by omega) (bvs (l ++ Cr.le (Cr.sum l))) rfl (by unfold maxLen; omega) (by omega) (by simp) ?_
  intro A4 p4 w4 o4 g4 q4
  have b4 := appB b3 O3.out g4 c2.size b3.size
  have HS := Lib.hid (show (l ++ Cr.le (Cr.sum l)).length = l.length + 4 from by simp [Cr.le])
  have HT := Lib.hid (show (l ++ Cr.le (Cr.sum l)).take l.length = l from by simp)
  have HF := Lib.hid (fits_burst l)
  generalize l ++ Cr.le (Cr.sum l) = s at *
  obtain ⟨g, hA4, hgb, hgl, hcc, -, -⟩ := o4.form (by omega)
  subst hA4
  have O4 := Lib.hid o4
  have hbase : w.heap.size ≤ g := Nat.le_trans c2.size hgb
  clear o4 g4 q4 O3 R3 b3 hb1
  go_wp2_with fail
  simp only [hwr]
  clear hwr
  generalize w2.heap.size = base at *
  go_loopw [10, 11, 12] (fun tv iv nv wr => ∃ i : Nat, i ≤ 32 ∧ nv = .int .i64 i ∧ tv = .bool (Cr.turnedB s l.length fr u i) ∧ iv = .bool (Cr.innerB s l.length fr u i) ∧ Own wr base 5 1 (some ⟨g, 0, none⟩) (l.length + 4) p4 (bvs (Cr.bst s l.length fr u i).1) ∧ Below w.heap.size w wr) (fun _ _ n _ => 32 - (intOf n).toNat)
  case atStart => exact ⟨0, by omega, rfl, by simp [Cr.turnedB, Cr.bst], by simp [Cr.innerB, Cr.bst], O4.out, b4⟩
  case round =>
    obtain ⟨i, hi, rfl, rfl, rfl, hown, hbel⟩ := hrel
    by_cases hlt : i < 32
    · have hlt' : (i : Int) < 32 := by omega
      have HO := Lib.hid hown
      clear hown
      have HL := Lib.hid (Cr.bst_len s l.length fr u i)
      by_cases hbit : u.getLsbD i = true
      · have hb1 : (bits .and .u32 ((u.toNat : Int) / 2 ^ i) 1 == 1) = true := (bit_at u i).trans hbit
        have HBT := Lib.hid hbit
        clear hbit
        by_cases hin : fr + i < 8 * (l.length + 4)
        · obtain ⟨h1, h2, h3⟩ := Cr.turned_on s l.length fr u i hlt ⟨HBT.out, by rw [HS.out]; exact hin⟩
          have H1 := Lib.hid h1
          have H2 := Lib.hid h2
          have H3 := Lib.hid h3
          clear h1 h2 h3
          generalize hcs : (Cr.bst s l.length fr u i).1 = cs at *
          have hcl : cs.length = l.length + 4 := by rw [HL.out, HS.out]
          obtain ⟨q, hq⟩ : ∃ q, q = (fr + i) / 8 := ⟨_, rfl⟩
          obtain ⟨r, hr⟩ : ∃ r, r = (fr + i) % 8 := ⟨_, rfl⟩
          have hql : q < cs.length := by omega
          have hr8 : r < 8 := by omega
          have q1 : ((fr : Int) + (i : Int)) / 8 = (q : Int) := by omega
          have q2 : ((fr : Int) + (i : Int)) % 8 = (r : Int) := by omega
          have HCL := Lib.hid hcl
          have q3 : (q : Int) < (l.length : Int) + 4 := by omega
          obtain ⟨g', hg', -, -, -, hcell, hfro⟩ := HO.out.form (by omega)
          obtain rfl : g = g' := by injection hg' with h; injection h
          have hfl2 := Cr.flip_set cs (fr + i) (by rw [← hq]; exact hql)
          simp only [← hq, ← hr] at hfl2
          have hc := hcell q (.int .u8 (cs[q].toNat : Int)) (by simp [bvs, bv, hql])
          have hf := hfro q
          have HFL := Lib.hid hfl2
          have HQ := Lib.hid hq
          generalize cs[q] = x at *
          have hx := x.toNat_lt
          clear hfl2 hcell hfro hg' hq hr hcs hcl hql
          have hrr : (0 : Int) ≤ (r : Int) := by omega
          have hxv := xor_pow x r hr8
          have ho := HO.out.stored q (.int .u8 (bits .xor .u8 (x.toNat : Int) (2 ^ r % 256)))
          have hset : (bvs cs).set q (.int .u8 (bits .xor .u8 (x.toNat : Int) (2 ^ r % 256))) = bvs (Cr.bst s l.length fr u (i + 1)).1 := by
            rw [H1.out, HFL.out, hxv]
            simp only [bvs, List.map_set, bv]
          rw [hset] at ho
          have HO2 := Lib.hid ho
          have hbel2 := hbel.setCell (p := ⟨g, q, none⟩) hbase (.int .u8 (bits .xor .u8 (x.toNat : Int) (2 ^ r % 256)))
          clear ho hset hxv
          cases hinn : Cr.innerB s l.length fr u i with
          | true =>
            have H3' := Lib.hid (show Cr.innerB s l.length fr u (i + 1) = true by rw [H3.out, hinn]; rfl)
            clear hinn
            go_wp2_with fail
            go_roundw
            case rel => exact ⟨i + 1, by omega, by go_num, by rw [H2.out], by rw [H3'.out], HO2.out, hbel2⟩
            case measure => simp [intOf]; omega
          | false =>
            have H3' := Lib.hid (show Cr.innerB s l.length fr u (i + 1) = decide ((fr : Int) + (i : Int) < 8 * (l.length : Int)) by
              rw [H3.out, hinn, Bool.false_or, decide_eq_decide]
              omega)
            clear hinn
            go_wp2_with fail
            go_roundw
            case rel => exact ⟨i + 1, by omega, by go_num, by rw [H2.out], by rw [H3'.out], HO2.out, hbel2⟩
            case measure => simp [intOf]; omega
        · have hoff := Lib.hid (Cr.turned_off s l.length fr u i (fun h => hin (by have := h.2; rw [HS.out] at this; exact this)))
          go_wp2_with fail
          go_roundw
          case rel => exact ⟨i + 1, by omega, by go_num, by unfold Cr.turnedB; rw [hoff.out], by unfold Cr.innerB; rw [hoff.out], by rw [hoff.out]; exact HO.out, hbel⟩
          case measure => simp [intOf]; omega
      · have hb1 : (bits .and .u32 ((u.toNat : Int) / 2 ^ i) 1 == 1) = false := (bit_at u i).trans (by simpa using hbit)
        have hoff := Lib.hid (Cr.turned_off s l.length fr u i (fun h => hbit h.1))
        clear hbit
        go_wp2_with fail
        go_roundw
        case rel => exact ⟨i + 1, by omega, by go_num, by unfold Cr.turnedB; rw [hoff.out], by unfold Cr.innerB; rw [hoff.out], by rw [hoff.out]; exact HO.out, hbel⟩
        case measure => simp [intOf]; omega
    · obtain rfl : i = 32 := by omega
      have HO := Lib.hid hown
      have hsum := Cr.burst_sum l s fr u HT.out (by rw [HS.out]; omega)
      have hfit := HF.out fr u (by rw [HS.out]; omega)
      have hlen := Cr.bst_len s l.length fr u 32
      rw [HS.out] at hlen
      have HSUM := Lib.hid hsum
      have HFIT := Lib.hid hfit
      have HLEN := Lib.hid hlen
      clear hown hsum hfit hlen
      go_wp2_with fail
      refine (new_t _).mono ?_
      rintro e w5 ⟨gt, rfl, hgt, hblk, hb5⟩
      have c5 := nextB hbel hb5
      have HB := Lib.hid hblk
      have HO5 := Lib.hid (HO.out.below hb5)
      have hcp4 : l.length + 4 ≤ p4 := by
        obtain ⟨_, _, _, _, h, _⟩ := HO.out.form (by omega)
        exact h
      clear hblk hb5
      go_wp2_with fail
      refine (fits_any gt _ _ p4 _ _ HLEN.out.symm (by rw [HLEN.out]; omega) (by rw [HLEN.out]; exact hcp4) HB.out HO5.out.reads).mono ?_
      rw [HFIT.out]
      rintro e w6 ⟨rfl, rfl⟩
      go_wp2_with fail
      have HR := Lib.hid (HO5.out.reads.take (k := l.length) (by omega))
      have hneq : (((Cr.sum ((Cr.bst s l.length fr u 32).1.take l.length)).toNat : Int) != ((Cr.sum l).toNat : Int)) = Cr.innerB s l.length fr u 32 := by
        rw [← HSUM.out, Bool.eq_iff_iff]
        simp only [bne_iff_ne, ne_eq, Int.natCast_inj]
        rw [BitVec.toNat_inj]
      have HN := Lib.hid hneq
      clear hneq
      refine (sum_n gt _ p4 _ ((Cr.bst s l.length fr u 32).1.take l.length) _ (by rw [List.length_take, HLEN.out]; omega) (by rw [List.length_take, HLEN.out]; unfold maxLen; omega) HB.out (by rw [bvs_take]; simpa using HR.out)).mono ?_
      rintro e w6 ⟨rfl, rfl⟩
      go_wp2_with fail
      refine (sum_t gt A c l _ HL.out HB.out (HA.out.at_below c5)).mono ?_
      rintro e w6 ⟨rfl, rfl⟩
      have hn := HN.out
      generalize Cr.sum ((Cr.bst s l.length fr u 32).1.take l.length) = V1 at *
      generalize Cr.sum l = V2 at *
      generalize Cr.innerB s l.length fr u 32 = I at *
      go_wp2_with fail
      go_ret
      exact ⟨by simp, c5⟩
end Go.Proofs.Ytmphkjbnagojhaa
