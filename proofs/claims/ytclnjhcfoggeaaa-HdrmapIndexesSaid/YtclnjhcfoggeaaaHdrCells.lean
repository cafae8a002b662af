/- HdrmapCells walked. -/
import Derived.Test.YtclnjhcfoggeaaaHdrLaws
import Derived.Test.YtclnjhcfoggeaaaHdrIdx
namespace Go.Proofs.Ytclnjhcfoggeaaa
open Go.RowKit

theorem uOf_le16 {L : Nat} (h : L ≤ 100000) : uOf L ≤ 16 := by
  have := (Hd.bl_le 17 L (by omega)).2 (by omega)
  unfold uOf; omega
def SaysShape (lw dg L D : Nat) (hi : Int) (u m : Nat) : Prop :=
  (∀ W, Calls Try.prog 14 #[.int .u64 (lw : Int), .int .u8 (dg : Int), .int .u64 0] W fun e w' => e = .returned (.agg #[.int .i64 (L : Int), .int .i64 hi, .int .i64 (D : Int)]) ∧ Below W.heap.size W w') ∧
  (∀ W, Calls Try.prog 9 #[.agg #[.int .i64 (L : Int), .int .i64 hi, .int .i64 (D : Int)]] W (MapPost L hi D u m W)) ∧
  (∀ W, Calls Try.prog 10 #[.agg #[.int .i64 (L : Int), .int .i64 hi, .int .i64 (D : Int)]] W fun e w' => e = .returned (.tuple #[.int .i64 (u : Int), .int .i64 (m : Int), .bool true]) ∧ Below W.heap.size W w')
theorem says_shape (lw dg : Nat) (h1 : lw ≤ 18446744073709551615) (h2 : dg ≤ 255) : ∃ L D hi u m, SaysShape lw dg L D hi u m ∧ 1 ≤ L ∧ 1 ≤ D ∧ D ≤ 5 ∧ u ≤ 16 ∧ 5 ≤ m ∧ m ≤ 18 ∧ 2 * p10 D ≤ pw m := by
  have HS := fun W => lshape_t lw dg 0 W h1 h2 (by omega)
  have hL : 1 + lw % 100000 ≤ 100000 := by omega
  have hL1 : 1 ≤ 1 + lw % 100000 := by omega
  have hD : 1 + dg % 5 ≤ 5 := by omega
  have hD1 : 1 ≤ 1 + dg % 5 := by omega
  rw [show 2 * (1 + lw % 100000) + 0 % 4611686018427387904 = 2 * (1 + lw % 100000) by omega] at HS
  generalize 1 + lw % 100000 = L at *
  generalize 1 + dg % 5 = D at *
  have hU := uOf_le16 hL
  have hM := mOf_range hD1 hD
  obtain ⟨hi, hhi0⟩ : ∃ hi : Int, hi = ((2 * L : Nat) : Int) := ⟨_, rfl⟩
  rw [← hhi0] at HS
  have HN := fun W => new_t L D hi W hD1 hD hL1 (by omega) (by omega) (by omega)
  have HR := fun W => rshape_t L D hi W hD1 hD hL1 (by omega) (by omega)
  have ht : decide ((uOf L : Int) + mOf D ≤ 62) = true := by simp; omega
  rw [ht] at HR
  exact ⟨L, D, hi, uOf L, mOf D, ⟨HS, HN, HR⟩, hL1, hD1, hD, hU, hM.1, hM.2, m_last hD1 hD⟩
set_option maxHeartbeats 1600000 in
set_option maxRecDepth 100000 in
theorem cells_pos (w : World) (lw dg v : Nat) (h1 : lw ≤ 18446744073709551615) (h2 : dg ≤ 255) (hv : v < 2 ^ 63) :
    Calls Try.prog 7 #[.int .u64 (lw : Int), .int .u8 (dg : Int), .int .i64 (v : Int)] w fun e w' => e = .returned (.bool true) ∧ Below w.heap.size w w' := by
  obtain ⟨L, D, hi, u, m, ⟨HS, HN, HR⟩, hL1, hD1, hD5, hu, hm5, hm18, hpm⟩ := says_shape lw dg h1 h2
  have hum : u + m ≤ 62 := by omega
  have hv2 : (v : Int) ≤ 9223372036854775807 := by omega
  have hidx := Hd.val_idx (u := u) hv (by omega) hm18 hum
  have hile := Hd.idx_le (u := u) hv (by omega) hm18
  have HI := fun g W hm => index_t g L hi D u m v W hm (by omega) hm18 hum hv
  have HLo := fun g W hm => low_t g L hi D u m v W hm (by omega) hum hv
  have HHi := fun g W hm => high_t g L hi D u m v W hm (by omega) hum hv
  have HSi := fun g W hm => size_t g L hi D u m v W hm (by omega) hum hv
  have HV := fun g W hm => value_t g L hi D u m (Hd.idx u m v) W hm (by omega) hm18 hum (by omega)
  rw [hidx.1, hidx.2] at HV
  have HC := fun W => rcell_t u m v W (by omega) hum hv
  have HX := fun W => rindex_t u m v W (by omega) hm18 hum hv
  have hsz := Hd.size_pos (u := u) (m := m) (v := v)
  have hhi := Hd.high_le (u := u) (m := m) hv (by omega)
  have e1 : ((Hd.low u m v + (Hd.size u m v - 1) : Nat) : Int) = (Hd.low u m v : Int) + ((Hd.size u m v : Int) - 1) := by omega
  rw [e1] at HHi
  have hs2 : (Hd.size u m v : Int) ≤ 9223372036854775807 := by
    have hb := Hd.bk_fit (u := u) (m := m) hv (by omega)
    have : Hd.size u m v ≤ 2 ^ 62 := Nat.pow_le_pow_right (by omega) (by omega)
    omega
  have hs3 : (1 : Int) ≤ (Hd.size u m v : Int) := by omega
  have hls : (Hd.low u m v : Int) + ((Hd.size u m v : Int) - 1) ≤ 9223372036854775807 := by omega
  clear e1 hsz hhi hidx
  generalize Hd.low u m v = lo at *
  generalize Hd.size u m v = sz at *
  generalize Hd.idx u m v = ix at *
  have hix : (ix : Int) ≤ 16777216 := by omega
  have HA := alive_t
  replace HS := Lib.hid HS
  replace HN := Lib.hid HN
  replace HR := Lib.hid HR
  replace HI := Lib.hid HI
  replace HLo := Lib.hid HLo
  replace HHi := Lib.hid HHi
  replace HSi := Lib.hid HSi
  replace HV := Lib.hid HV
  replace HC := Lib.hid HC
  replace HX := Lib.hid HX
  clear hile h1 h2 hL1 hD1 hD5 hpm
  go_enter Try.func7, Try.ntmps7
  go_wp2_with fail
  refine (HA _).mono ?_
  rintro e w1 ⟨rfl, hb1⟩
  have HB1 := Lib.hid hb1
  clear hb1
  go_wp2_with fail
  refine (HS.out _).mono ?_
  rintro e w2 ⟨rfl, hb2⟩
  have HB2 := Lib.hid hb2
  clear hb2
  go_wp2_with fail
  have hbel : Below w2.heap.size w2 (w2.alloc (.cells #[.int .i64 (L : Int), .int .i64 hi, .int .i64 (D : Int)] 23)) := (Below.refl _ _).alloc (Nat.le_refl _) _
  have hblk := Blk.new w2 23 #[.int .i64 (L : Int), .int .i64 hi, .int .i64 (D : Int)]
  have HB0 := Lib.hid hbel
  clear hbel
  generalize w2.alloc (.cells #[.int .i64 (L : Int), .int .i64 hi, .int .i64 (D : Int)] 23) = W0 at *
  have hbelow := nextB (nextB HB1.out HB2.out) HB0.out
  generalize w2.heap.size = H at hblk ⊢
  clear HB1 HB2 HB0
  have HB := Lib.hid hbelow
  clear hbelow
  refine (HN.out _).mono ?_
  rintro e w3 ⟨g, rfl, hg, hgl, hmp, hb3⟩
  have hblk1 := hblk.below hb3 hblk.lt
  have k0 : w3.cell? ⟨H, 0, none⟩ = some (.int .i64 (L : Int)) := by rw [hblk1.cell]; rfl
  have k1 : w3.cell? ⟨H, 1, none⟩ = some (.int .i64 hi) := by rw [hblk1.cell]; rfl
  have k2 : w3.cell? ⟨H, 2, none⟩ = some (.int .i64 (D : Int)) := by rw [hblk1.cell]; rfl
  have HB3 := Lib.hid (nextB HB.out hb3)
  have HM3 := Lib.hid hmp
  clear hb3 hg hmp hblk hblk1 HB
  go_wp2_with fail
  refine (HR.out _).mono ?_
  rintro e w4 ⟨rfl, hb4⟩
  have HM := Lib.hid (HM3.out.below hb4 hgl)
  have HB := Lib.hid (nextB HB3.out hb4)
  clear hb4 hgl k0 k1 k2 HB3 HM3
  go_wp2_with fail
  refine (HI.out g _ HM.out).mono ?_
  rintro e w5 ⟨rfl, n, rfl⟩
  go_wp2_with fail
  refine (HLo.out g _ (HM.out.drewN _)).mono ?_
  rintro e w5 ⟨rfl, n, rfl⟩
  go_wp2_with fail
  refine (HHi.out g _ (HM.out.drewN _)).mono ?_
  rintro e w5 ⟨rfl, n, rfl⟩
  go_wp2_with fail
  refine (HSi.out g _ (HM.out.drewN _)).mono ?_
  rintro e w5 ⟨rfl, n, rfl⟩
  go_wp2_with fail
  refine (HC.out _).mono ?_
  rintro e w5 ⟨rfl, rfl⟩
  go_wp2_with fail
  refine (HV.out g _ (HM.out.drewN _)).mono ?_
  rintro e w5 ⟨rfl, n, rfl⟩
  go_wp2_with fail
  refine (HX.out _).mono ?_
  rintro e w5 ⟨rfl, rfl⟩
  go_wp2_with fail
  go_ret
  exact ⟨rfl, below_drewN HB.out _⟩
set_option maxHeartbeats 1600000 in
set_option maxRecDepth 100000 in
theorem cells_neg (w : World) (lw dg : Nat) (v : Int) (h1 : lw ≤ 18446744073709551615) (h2 : dg ≤ 255) (hv : v < 0) :
    Calls Try.prog 7 #[.int .u64 (lw : Int), .int .u8 (dg : Int), .int .i64 v] w fun e w' => e = .returned (.bool true) ∧ Below w.heap.size w w' := by
  obtain ⟨L, D, hi, u, m, ⟨HS, HN, HR⟩, hL1, hD1, hD5, hu, hm5, hm18, hpm⟩ := says_shape lw dg h1 h2
  have hum : u + m ≤ 62 := by omega
  have HI := fun g W => index_neg g v W hv
  have HLo := fun g W => low_neg g v W hv
  have HHi := fun g W => high_neg g v W hv
  have HSi := fun g W => size_neg g v W hv
  have HE := fun g W => same_neg g v v W hv hv
  have HA := alive_t
  replace HS := Lib.hid HS
  replace HN := Lib.hid HN
  replace HR := Lib.hid HR
  replace HI := Lib.hid HI
  replace HLo := Lib.hid HLo
  replace HHi := Lib.hid HHi
  replace HSi := Lib.hid HSi
  replace HE := Lib.hid HE
  clear h1 h2 hL1 hD1 hD5 hpm
  go_enter Try.func7, Try.ntmps7
  go_wp2_with fail
  refine (HA _).mono ?_
  rintro e w1 ⟨rfl, hb1⟩
  have HB1 := Lib.hid hb1
  clear hb1
  go_wp2_with fail
  refine (HS.out _).mono ?_
  rintro e w2 ⟨rfl, hb2⟩
  have HB2 := Lib.hid hb2
  clear hb2
  go_wp2_with fail
  have hbel : Below w2.heap.size w2 (w2.alloc (.cells #[.int .i64 (L : Int), .int .i64 hi, .int .i64 (D : Int)] 23)) := (Below.refl _ _).alloc (Nat.le_refl _) _
  have hblk := Blk.new w2 23 #[.int .i64 (L : Int), .int .i64 hi, .int .i64 (D : Int)]
  have HB0 := Lib.hid hbel
  clear hbel
  generalize w2.alloc (.cells #[.int .i64 (L : Int), .int .i64 hi, .int .i64 (D : Int)] 23) = W0 at *
  have hbelow := nextB (nextB HB1.out HB2.out) HB0.out
  generalize w2.heap.size = H at hblk ⊢
  clear HB1 HB2 HB0
  have HB := Lib.hid hbelow
  clear hbelow
  refine (HN.out _).mono ?_
  rintro e w3 ⟨g, rfl, hg, hgl, hmp, hb3⟩
  have hblk1 := hblk.below hb3 hblk.lt
  have k0 : w3.cell? ⟨H, 0, none⟩ = some (.int .i64 (L : Int)) := by rw [hblk1.cell]; rfl
  have k1 : w3.cell? ⟨H, 1, none⟩ = some (.int .i64 hi) := by rw [hblk1.cell]; rfl
  have k2 : w3.cell? ⟨H, 2, none⟩ = some (.int .i64 (D : Int)) := by rw [hblk1.cell]; rfl
  have HB3 := Lib.hid (nextB HB.out hb3)
  have HM3 := Lib.hid hmp
  clear hb3 hg hmp hblk hblk1 HB
  go_wp2_with fail
  refine (HR.out _).mono ?_
  rintro e w4 ⟨rfl, hb4⟩
  have HM := Lib.hid (HM3.out.below hb4 hgl)
  have HB := Lib.hid (nextB HB3.out hb4)
  clear hb4 hgl k0 k1 k2 HB3 HM3
  go_wp2_with fail
  refine (HI.out g _).mono ?_
  rintro e w5 ⟨rfl, n, rfl⟩
  go_wp2_with fail
  refine (HLo.out g _).mono ?_
  rintro e w5 ⟨rfl, n, rfl⟩
  go_wp2_with fail
  refine (HHi.out g _).mono ?_
  rintro e w5 ⟨rfl, n, rfl⟩
  go_wp2_with fail
  refine (HSi.out g _).mono ?_
  rintro e w5 ⟨rfl, n, rfl⟩
  go_wp2_with fail
  refine (HE.out g _).mono ?_
  rintro e w5 ⟨rfl, n, rfl⟩
  go_wp2_with fail
  go_ret
  exact ⟨rfl, below_drewN HB.out _⟩
theorem hdrmapCells_walk (w : World) (lw : Int) (a0 : 0 ≤ lw) (a1 : lw ≤ 18446744073709551615) (dg : Int) (b0 : 0 ≤ dg) (b1 : dg ≤ 255) (v : Int) (c0 : -9223372036854775808 ≤ v) (c1 : v ≤ 9223372036854775807) :
    Calls Try.prog 7 #[.int .u64 lw, .int .u8 dg, .int .i64 v] w fun e w' => e = .returned (.bool true) ∧ Below w.heap.size w w' := by
  obtain ⟨lw, rfl⟩ := Int.eq_ofNat_of_zero_le a0
  obtain ⟨dg, rfl⟩ := Int.eq_ofNat_of_zero_le b0
  by_cases hv : v < 0
  · exact cells_neg w lw dg v (by omega) (by omega) hv
  · obtain ⟨v, rfl⟩ := Int.eq_ofNat_of_zero_le (by omega : 0 ≤ v)
    exact cells_pos w lw dg v (by omega) (by omega) (by omega)
end Go.Proofs.Ytclnjhcfoggeaaa
