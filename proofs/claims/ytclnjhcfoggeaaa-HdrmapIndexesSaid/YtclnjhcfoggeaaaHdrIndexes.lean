/- HdrmapIndexes walked. -/
import Derived.Test.YtclnjhcfoggeaaaHdrCells
import Derived.Test.YtclnjhcfoggeaaaHdrNearP
import Derived.Outline
namespace Go.Proofs.Ytclnjhcfoggeaaa
open Go.RowKit

set_option maxHeartbeats 400000 in
theorem rvalue_neg (u m : Nat) (i : Int) (w : World) (hm1 : 1 ≤ m) (hm : m ≤ 18) (hi : i < 0) :
    Calls Try.prog 25 #[.int .i64 (u : Int), .int .i64 (m : Int), .int .i64 i] w fun e w' => e = .returned (.tuple #[.int .i64 0, .bool false]) ∧ w' = w := by
  have hd : decide (i < 0) = true := by simpa using hi
  have HP := fun W => rpow2_t ((m : Int) - 1) (m - 1) W (by omega) (by omega)
  rw [half_pw] at HP
  have hh := Hd.half_le hm
  have hh2 : (Hd.half m : Int) ≤ 131072 := by omega
  generalize Hd.half m = hf at *
  replace HP := Lib.hid HP
  go_enter Try.func25, Try.ntmps25
  go_wp2_with fail
  refine (HP.out _).mono ?_
  rintro e w1 ⟨rfl, rfl⟩
  go_wp2_with fail
  go_ret2
  exact ⟨rfl, rfl⟩
set_option maxHeartbeats 1600000 in
set_option maxRecDepth 100000 in
theorem indexes_neg (w : World) (lw dg : Nat) (i : Int) (h1 : lw ≤ 18446744073709551615) (h2 : dg ≤ 255) (hi0 : i < 0) :
    Calls Try.prog 6 #[.int .u64 (lw : Int), .int .u8 (dg : Int), .int .i64 i] w fun e w' => e = .returned (.bool true) ∧ Below w.heap.size w w' := by
  obtain ⟨L, D, hi, u, m, ⟨HS, HN, HR⟩, hL1, hD1, hD5, hu, hm5, hm18, hpm⟩ := says_shape lw dg h1 h2
  have hum : u + m ≤ 62 := by omega
  have HV := fun g W => value_neg g i W hi0
  have HRV := fun W => rvalue_neg u m i W (by omega) hm18 hi0
  have HA := alive_t
  replace HS := Lib.hid HS
  replace HN := Lib.hid HN
  replace HR := Lib.hid HR
  replace HV := Lib.hid HV
  replace HRV := Lib.hid HRV
  clear h1 h2 hL1 hD1 hD5 hpm
  go_enter Try.func6, Try.ntmps6
  go_wp2_with fail
  refine (HA _).mono ?_
  rintro e w1 ⟨rfl, hb1⟩
  have HB1 := Lib.hid hb1
  clear hb1
  go_wp2_with fail
  refine (HS.out _).mono ?_
  rintro e w2 ⟨rfl, hb2⟩
  have HB2 := Lib.hid hb2
  clear hb2
  go_wp2_with fail
  have hbel : Below w2.heap.size w2 (w2.alloc (.cells #[.int .i64 (L : Int), .int .i64 hi, .int .i64 (D : Int)] 23)) := (Below.refl _ _).alloc (Nat.le_refl _) _
  have hblk := Blk.new w2 23 #[.int .i64 (L : Int), .int .i64 hi, .int .i64 (D : Int)]
  have HB0 := Lib.hid hbel
  clear hbel
  generalize w2.alloc (.cells #[.int .i64 (L : Int), .int .i64 hi, .int .i64 (D : Int)] 23) = W0 at *
  have hbelow := nextB (nextB HB1.out HB2.out) HB0.out
  generalize w2.heap.size = H at hblk ⊢
  clear HB1 HB2 HB0
  have HB := Lib.hid hbelow
  clear hbelow
  refine (HN.out _).mono ?_
  rintro e w3 ⟨g, rfl, hg, hgl, hmp, hb3⟩
  have hblk1 := hblk.below hb3 hblk.lt
  have k0 : w3.cell? ⟨H, 0, none⟩ = some (.int .i64 (L : Int)) := by rw [hblk1.cell]; rfl
  have k1 : w3.cell? ⟨H, 1, none⟩ = some (.int .i64 hi) := by rw [hblk1.cell]; rfl
  have k2 : w3.cell? ⟨H, 2, none⟩ = some (.int .i64 (D : Int)) := by rw [hblk1.cell]; rfl
  have HB3 := Lib.hid (nextB HB.out hb3)
  have HM3 := Lib.hid hmp
  clear hb3 hg hmp hblk hblk1 HB
  go_wp2_with fail
  refine (HR.out _).mono ?_
  rintro e w4 ⟨rfl, hb4⟩
  have HM := Lib.hid (HM3.out.below hb4 hgl)
  have HB := Lib.hid (nextB HB3.out hb4)
  clear hb4 hgl k0 k1 k2 HB3 HM3
  go_wp2_with fail
  refine (HV.out g _).mono ?_
  rintro e w5 ⟨rfl, n1, rfl⟩
  go_wp2_with fail
  refine (HRV.out _).mono ?_
  rintro e w5 ⟨rfl, rfl⟩
  go_wp2_with fail
  go_ret
  exact ⟨rfl, below_drewN HB.out _⟩
set_option maxHeartbeats 1600000 in
set_option maxRecDepth 100000 in
theorem indexes_bad (w : World) (lw dg i : Nat) (hi0 : i < 2 ^ 63) (L D : Nat) (hi : Int) (u m : Nat) (hsay : SaysShape lw dg L D hi u m) (hu : u ≤ 16) (hm5 : 5 ≤ m) (hm18 : m ≤ 18) (hbad : valBad u m i = true) :
    Calls Try.prog 6 #[.int .u64 (lw : Int), .int .u8 (dg : Int), .int .i64 (i : Int)] w fun e w' => e = .returned (.bool true) ∧ Below w.heap.size w w' := by
  obtain ⟨HS, HN, HR⟩ := hsay
  have hum : u + m ≤ 62 := by omega
  have HV := fun g W hm => value_t g L hi D u m i W hm (by omega) hm18 hum hi0
  have HRV := fun W => rvalue_t u m i W (by omega) hm18 hum hi0
  have e1 : valAt u m i = 0 := by simp only [valAt, hbad]; rfl
  have e2 : valErr u m i = 5 := by simp only [valErr, hbad]; rfl
  rw [e1, e2] at HV
  rw [e1, hbad] at HRV
  have HA := alive_t
  replace HS := Lib.hid HS
  replace HN := Lib.hid HN
  replace HR := Lib.hid HR
  replace HV := Lib.hid HV
  replace HRV := Lib.hid HRV
  clear e1 e2 hbad
  go_enter Try.func6, Try.ntmps6
  go_wp2_with fail
  refine (HA _).mono ?_
  rintro e w1 ⟨rfl, hb1⟩
  have HB1 := Lib.hid hb1
  clear hb1
  go_wp2_with fail
  refine (HS.out _).mono ?_
  rintro e w2 ⟨rfl, hb2⟩
  have HB2 := Lib.hid hb2
  clear hb2
  go_wp2_with fail
  have hbel : Below w2.heap.size w2 (w2.alloc (.cells #[.int .i64 (L : Int), .int .i64 hi, .int .i64 (D : Int)] 23)) := (Below.refl _ _).alloc (Nat.le_refl _) _
  have hblk := Blk.new w2 23 #[.int .i64 (L : Int), .int .i64 hi, .int .i64 (D : Int)]
  have HB0 := Lib.hid hbel
  clear hbel
  generalize w2.alloc (.cells #[.int .i64 (L : Int), .int .i64 hi, .int .i64 (D : Int)] 23) = W0 at *
  have hbelow := nextB (nextB HB1.out HB2.out) HB0.out
  generalize w2.heap.size = H at hblk ⊢
  clear HB1 HB2 HB0
  have HB := Lib.hid hbelow
  clear hbelow
  refine (HN.out _).mono ?_
  rintro e w3 ⟨g, rfl, hg, hgl, hmp, hb3⟩
  have hblk1 := hblk.below hb3 hblk.lt
  have k0 : w3.cell? ⟨H, 0, none⟩ = some (.int .i64 (L : Int)) := by rw [hblk1.cell]; rfl
  have k1 : w3.cell? ⟨H, 1, none⟩ = some (.int .i64 hi) := by rw [hblk1.cell]; rfl
  have k2 : w3.cell? ⟨H, 2, none⟩ = some (.int .i64 (D : Int)) := by rw [hblk1.cell]; rfl
  have HB3 := Lib.hid (nextB HB.out hb3)
  have HM3 := Lib.hid hmp
  clear hb3 hg hmp hblk hblk1 HB
  go_wp2_with fail
  refine (HR.out _).mono ?_
  rintro e w4 ⟨rfl, hb4⟩
  have HM := Lib.hid (HM3.out.below hb4 hgl)
  have HB := Lib.hid (nextB HB3.out hb4)
  clear hb4 hgl k0 k1 k2 HB3 HM3
  go_wp2_with fail
  refine (HV.out g _ HM.out).mono ?_
  rintro e w5 ⟨rfl, n1, rfl⟩
  go_wp2_with fail
  refine (HRV.out _).mono ?_
  rintro e w5 ⟨rfl, rfl⟩
  go_wp2_with fail
  go_ret
  exact ⟨rfl, below_drewN HB.out _⟩
set_option maxHeartbeats 1600000 in
set_option maxRecDepth 100000 in
theorem indexes_good (w : World) (lw dg i : Nat) (hi0 : i < 2 ^ 63) (L D : Nat) (hi : Int) (u m : Nat) (hsay : SaysShape lw dg L D hi u m) (hu : u ≤ 16) (hm5 : 5 ≤ m) (hm18 : m ≤ 18) (hbad : valBad u m i = false) :
    Calls Try.prog 6 #[.int .u64 (lw : Int), .int .u8 (dg : Int), .int .i64 (i : Int)] w fun e w' => e = .returned (.bool true) ∧ Below w.heap.size w w' := by
  obtain ⟨HS, HN, HR⟩ := hsay
  have hum : u + m ≤ 62 := by omega
  obtain ⟨hr, e1, e2⟩ := Hd.raw_good (by omega) hm18 hum hi0 hbad
  obtain ⟨r1, r2, r3⟩ := Hd.raw_of (u := u) (m := m) (i := i) (by omega) hr
  have hile : i ≤ 16777216 := by
    have := Hd.idx_le (u := u) hr (by omega) hm18
    omega
  obtain ⟨n1, n2, n3⟩ := Hd.raw_next (u := u) (i := i) (by omega) hm18 hum (by omega) hbad
  have HV := fun g W hm => value_t g L hi D u m i W hm (by omega) hm18 hum hi0
  have HRV := fun W => rvalue_t u m i W (by omega) hm18 hum hi0
  have HI := fun g W hm => index_t g L hi D u m (Hd.raw u m i) W hm (by omega) hm18 hum hr
  have HH := fun g W hm => high_t g L hi D u m (Hd.raw u m i) W hm (by omega) hum hr
  have HV2 := fun g W hm => value_t g L hi D u m (i + 1) W hm (by omega) hm18 hum (by omega)
  rw [e1, e2] at HV
  rw [e1, hbad] at HRV
  rw [r1] at HI
  rw [r2, r3] at HH
  rw [show ((i + 1 : Nat) : Int) = (i : Int) + 1 by omega] at HV2
  generalize Hd.raw u m i + (2 ^ (vb m i + u) - 1) = hg at *
  generalize Hd.raw u m i = R at *
  have hR2 : (R : Int) ≤ 9223372036854775807 := by omega
  have hhg2 : (hg : Int) ≤ 9223372036854775807 := by omega
  have hi2 : (i : Int) ≤ 16777216 := by omega
  have hcase : (hg = 9223372036854775807 ∧ valAt u m (i + 1) = 0 ∧ valErr u m (i + 1) = 5) ∨ ((hg : Int) < 9223372036854775807 ∧ valAt u m (i + 1) = hg + 1 ∧ valErr u m (i + 1) = 0) := by
    by_cases c : hg = 2 ^ 63 - 1
    · exact .inl ⟨by omega, n2 (by omega)⟩
    · exact .inr ⟨by omega, n3 (by omega)⟩
  have HA := alive_t
  replace HS := Lib.hid HS
  replace HN := Lib.hid HN
  replace HR := Lib.hid HR
  replace HV := Lib.hid HV
  replace HRV := Lib.hid HRV
  replace HI := Lib.hid HI
  replace HH := Lib.hid HH
  clear e1 e2 hbad n1 n2 n3 r1 r2 r3 hile hr hi0
  rcases hcase with ⟨c1, c2, c3⟩ | ⟨c1, c2, c3⟩
  · rw [c2, c3] at HV2
    replace HV2 := Lib.hid HV2
    subst c1
    clear c2 c3
    go_enter Try.func6, Try.ntmps6
    go_wp2_with fail
    refine (HA _).mono ?_
    rintro e w1 ⟨rfl, hb1⟩
    have HB1 := Lib.hid hb1
    clear hb1
    go_wp2_with fail
    refine (HS.out _).mono ?_
    rintro e w2 ⟨rfl, hb2⟩
    have HB2 := Lib.hid hb2
    clear hb2
    go_wp2_with fail
    have hbel : Below w2.heap.size w2 (w2.alloc (.cells #[.int .i64 (L : Int), .int .i64 hi, .int .i64 (D : Int)] 23)) := (Below.refl _ _).alloc (Nat.le_refl _) _
    have hblk := Blk.new w2 23 #[.int .i64 (L : Int), .int .i64 hi, .int .i64 (D : Int)]
    have HB0 := Lib.hid hbel
    clear hbel
    generalize w2.alloc (.cells #[.int .i64 (L : Int), .int .i64 hi, .int .i64 (D : Int)] 23) = W0 at *
    have hbelow := nextB (nextB HB1.out HB2.out) HB0.out
    generalize w2.heap.size = H at hblk ⊢
    clear HB1 HB2 HB0
    have HB := Lib.hid hbelow
    clear hbelow
    refine (HN.out _).mono ?_
    rintro e w3 ⟨g, rfl, hg, hgl, hmp, hb3⟩
    have hblk1 := hblk.below hb3 hblk.lt
    have k0 : w3.cell? ⟨H, 0, none⟩ = some (.int .i64 (L : Int)) := by rw [hblk1.cell]; rfl
    have k1 : w3.cell? ⟨H, 1, none⟩ = some (.int .i64 hi) := by rw [hblk1.cell]; rfl
    have k2 : w3.cell? ⟨H, 2, none⟩ = some (.int .i64 (D : Int)) := by rw [hblk1.cell]; rfl
    have HB3 := Lib.hid (nextB HB.out hb3)
    have HM3 := Lib.hid hmp
    clear hb3 hg hmp hblk hblk1 HB
    go_wp2_with fail
    refine (HR.out _).mono ?_
    rintro e w4 ⟨rfl, hb4⟩
    have HM := Lib.hid (HM3.out.below hb4 hgl)
    have HB := Lib.hid (nextB HB3.out hb4)
    clear hb4 hgl k0 k1 k2 HB3 HM3
    go_wp2_with fail
    refine (HV.out g _ HM.out).mono ?_
    rintro e w5 ⟨rfl, n1, rfl⟩
    go_wp2_with fail
    refine (HRV.out _).mono ?_
    rintro e w5 ⟨rfl, rfl⟩
    go_wp2_with fail
    refine (HI.out g _ (HM.out.drewN _)).mono ?_
    rintro e w5 ⟨rfl, n1, rfl⟩
    go_wp2_with fail
    refine (HH.out g _ (HM.out.drewN _)).mono ?_
    rintro e w5 ⟨rfl, n1, rfl⟩
    go_wp2_with fail
    refine (HV2.out g _ (HM.out.drewN _)).mono ?_
    rintro e w5 ⟨rfl, n1, rfl⟩
    go_wp2_with fail
    go_ret
    exact ⟨rfl, below_drewN HB.out _⟩
  · rw [c2, c3] at HV2
    rw [show ((hg + 1 : Nat) : Int) = (hg : Int) + 1 by omega] at HV2
    replace HV2 := Lib.hid HV2
    have hne : ((hg : Int) == 9223372036854775807) = false := by
      simp only [beq_eq_false_iff_ne]; omega
    have hle : (hg : Int) + 1 ≤ 9223372036854775807 := by omega
    clear c1 c2 c3 hhg2
    go_enter Try.func6, Try.ntmps6
    go_wp2_with fail
    refine (HA _).mono ?_
    rintro e w1 ⟨rfl, hb1⟩
    have HB1 := Lib.hid hb1
    clear hb1
    go_wp2_with fail
    refine (HS.out _).mono ?_
    rintro e w2 ⟨rfl, hb2⟩
    have HB2 := Lib.hid hb2
    clear hb2
    go_wp2_with fail
    have hbel : Below w2.heap.size w2 (w2.alloc (.cells #[.int .i64 (L : Int), .int .i64 hi, .int .i64 (D : Int)] 23)) := (Below.refl _ _).alloc (Nat.le_refl _) _
    have hblk := Blk.new w2 23 #[.int .i64 (L : Int), .int .i64 hi, .int .i64 (D : Int)]
    have HB0 := Lib.hid hbel
    clear hbel
    generalize w2.alloc (.cells #[.int .i64 (L : Int), .int .i64 hi, .int .i64 (D : Int)] 23) = W0 at *
    have hbelow := nextB (nextB HB1.out HB2.out) HB0.out
    generalize w2.heap.size = H at hblk ⊢
    clear HB1 HB2 HB0
    have HB := Lib.hid hbelow
    clear hbelow
    refine (HN.out _).mono ?_
    rintro e w3 ⟨g, rfl, hg, hgl, hmp, hb3⟩
    have hblk1 := hblk.below hb3 hblk.lt
    have k0 : w3.cell? ⟨H, 0, none⟩ = some (.int .i64 (L : Int)) := by rw [hblk1.cell]; rfl
    have k1 : w3.cell? ⟨H, 1, none⟩ = some (.int .i64 hi) := by rw [hblk1.cell]; rfl
    have k2 : w3.cell? ⟨H, 2, none⟩ = some (.int .i64 (D : Int)) := by rw [hblk1.cell]; rfl
    have HB3 := Lib.hid (nextB HB.out hb3)
    have HM3 := Lib.hid hmp
    clear hb3 hg hmp hblk hblk1 HB
    go_wp2_with fail
    refine (HR.out _).mono ?_
    rintro e w4 ⟨rfl, hb4⟩
    have HM := Lib.hid (HM3.out.below hb4 hgl)
    have HB := Lib.hid (nextB HB3.out hb4)
    clear hb4 hgl k0 k1 k2 HB3 HM3
    go_wp2_with fail
    refine (HV.out g _ HM.out).mono ?_
    rintro e w5 ⟨rfl, n1, rfl⟩
    go_wp2_with fail
    refine (HRV.out _).mono ?_
    rintro e w5 ⟨rfl, rfl⟩
    go_wp2_with fail
    refine (HI.out g _ (HM.out.drewN _)).mono ?_
    rintro e w5 ⟨rfl, n1, rfl⟩
    go_wp2_with fail
    refine (HH.out g _ (HM.out.drewN _)).mono ?_
    rintro e w5 ⟨rfl, n1, rfl⟩
    go_wp2_with fail
    refine (HV2.out g _ (HM.out.drewN _)).mono ?_
    rintro e w5 ⟨rfl, n1, rfl⟩
    go_wp2_with fail
    go_ret
    exact ⟨rfl, below_drewN HB.out _⟩
theorem hdrmapIndexes_walk (w : World) (lw : Int) (a0 : 0 ≤ lw) (a1 : lw ≤ 18446744073709551615) (dg : Int) (b0 : 0 ≤ dg) (b1 : dg ≤ 255) (i : Int) (c0 : -9223372036854775808 ≤ i) (c1 : i ≤ 9223372036854775807) :
    Calls Try.prog 6 #[.int .u64 lw, .int .u8 dg, .int .i64 i] w fun e w' => e = .returned (.bool true) ∧ Below w.heap.size w w' := by
  obtain ⟨lw, rfl⟩ := Int.eq_ofNat_of_zero_le a0
  obtain ⟨dg, rfl⟩ := Int.eq_ofNat_of_zero_le b0
  by_cases hv : i < 0
  · exact indexes_neg w lw dg i (by omega) (by omega) hv
  · obtain ⟨i, rfl⟩ := Int.eq_ofNat_of_zero_le (by omega : 0 ≤ i)
    obtain ⟨L, D, hi, u, m, hsay, hL1, hD1, hD5, hu, hm5, hm18, hpm⟩ := says_shape lw dg (by omega) (by omega)
    have hi0 : i < 2 ^ 63 := by omega
    clear a0 a1 b0 b1 c0 c1 hv
    rcases Bool.eq_false_or_eq_true (valBad u m i) with hb | hb
    · exact indexes_bad w lw dg i hi0 L D hi u m hsay hu hm5 hm18 hb
    · exact indexes_good w lw dg i hi0 L D hi u m hsay hu hm5 hm18 hb
end Go.Proofs.Ytclnjhcfoggeaaa
